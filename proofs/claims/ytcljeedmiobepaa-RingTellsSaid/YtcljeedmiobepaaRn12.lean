/-
  The ring: the walk of ring.Own: the same nodes in new memory.
-/
import Derived.Test.YtcljeedmiobepaaRn3
import Derived.Test.YtcljeedmiobepaaRn5
import Derived.Test.YtcljeedmiobepaaRn9
import Derived.Test.YtcljeedmiobepaaRn11
import Derived.Deep.RegionHeld3
import Derived.Laws.IdiomCopy
import Derived.Lib.AppendZerosOnto
import Derived.Lib.Overlaps
import Derived.Deep.RegionLaw
import Derived.Lib.SlicesDelete
namespace Go.Proofs.Ytcljeedmiobepaa.Rng
open Go.RowKit Go.Gh Go.Proofs.Ytcljeedmiobepaa.Nod
set_option linter.unusedVariables false
set_option maxHeartbeats 8000000 in
set_option maxRecDepth 100000 in
theorem ringown_any (v : Value) (L : List Nd) (w : World) (hs : Sp NdR 2 w v L) (hl20 : L.length ≤ 100) (htk : ∀ x ∈ L, x.tk.length ≤ 1000) : Calls Try.prog 130 #[v] w fun e w' => ∃ v', e = .returned v' ∧ Sp NdR 2 w' v' L ∧ Below w.heap.size w w' := by
  obtain ⟨n, hn⟩ : ∃ n, L.length = n := ⟨_, rfl⟩
  obtain ⟨ao, c, rfl, hnc, hc⟩ := hs.shapeN hn
  rw [hn] at hl20
  have HN := Lib.hid hn
  have HS := Lib.hid hs
  have HTK := Lib.hid htk
  clear hn hs htk
  go_enter Try.func130, Try.ntmps130
  go_wp2_with fail
  go_loopw [3, 8] (fun u i wr => ∃ k : Nat, k ≤ n ∧ i = .int .i64 k ∧ Hid ((L.take k).length = k) ∧ Hid (Ow (NdB 25 w.heap.size) 2 25 w.heap.size wr u (L.take k)) ∧ Below w.heap.size w wr) (fun _ i _ => n - (intOf i).toNat)
  case atStart => exact ⟨0, Nat.zero_le _, rfl, Lib.hid rfl, Lib.hid Ow.nil, Below.refl _ _⟩
  case round =>
    obtain ⟨k, hk, rfl, HP, HO, hbel⟩ := hrel
    have hsz := hbel.size
    by_cases hlt : k < n
    case neg =>
      obtain rfl : k = n := by omega
      have HO2 : Hid (Sp NdR 2 wr u3 L) := Lib.hid (by
        have := HO.out
        rw [List.take_of_length_le (by rw [HN.out]; exact Nat.le_refl _)] at this
        exact this.sp.weaken ndB_ndR)
      go_wp2_with fail
      go_ret
      exact ⟨_, rfl, HO2.out, hbel⟩
    obtain ⟨x, hx⟩ : ∃ x, L[k]? = some x := ⟨_, List.getElem?_eq_getElem (by rw [HN.out]; exact hlt)⟩
    have hx20 : x.tk.length ≤ 1000 := HTK.out x (List.mem_of_getElem? hx)
    obtain ⟨b, off, cs, rfl, ⟨t, rfl, htx⟩, _, hck⟩ := (HS.out.below ndR_mono hbel).get hx
    have HX := Lib.hid hx
    have c0 := hck 0 _ rfl
    have c1 := hck 1 _ rfl
    rw [Nat.add_zero] at c0
    have HTX := Lib.hid htx
    obtain ⟨ta, tc, rfl, -, -, -⟩ := htx.1.shape
    obtain ⟨uo, uc, rfl, hu1, hu2⟩ := Sp.shapeN HO.out.sp HP.out
    obtain ⟨P, hP1, hP2, hP3, hP4⟩ := HO.out
    rw [HP.out] at hP4
    have HPP := Lib.hid (And.intro hP1 (And.intro hP2 hP3))
    have HOW := Lib.hid hP4
    clear hck hx htx hP1 hP2 hP3 hP4
    go_upto_region 5 with (fail)
    obtain ⟨wA, hwA⟩ : ∃ wA, wA = wr.alloc (Obj.cells #[.string x.nm, .slice ta x.tk.length tc] 25) := ⟨_, rfl⟩
    have hbox : wA.heap[wr.heap.size]? = some (.cells #[.string x.nm, .slice ta x.tk.length tc] 25 (0, 0)) := by rw [hwA]; exact heap_alloc_new wr _
    have hbA : Below wr.heap.size wr wA := by rw [hwA]; exact (Below.refl _ _).alloc (Nat.le_refl _) _
    rw [← hwA]
    have hbD : Below wr.heap.size wr wA.drew := hbA.drew
    have hBA : Below w.heap.size w wA.drew := hbel.trans (hbD.mono hsz)
    have HBA := Lib.hid hBA
    have hsA := hBA.size
    have HOA : Hid (wA.drew.ownsRow w.heap.size 25 2 (.slice uo k uc) k (pc P)) := Lib.hid (own_below HOW.out hbD)
    have HPA : Hid (∀ q ∈ P, NdB 25 w.heap.size wA.drew q.1 q.2) := Lib.hid (fun q hq => ndB_mono _ _ _ _ (HPP.out.2.2 q hq) hbD)
    have HTA : Hid (Toks wA.drew (.slice ta x.tk.length tc) x.tk) := Lib.hid (HTX.out.below hbD)
    have HNE : Hid (Value.ownBlock (.slice uo k uc) ≠ some wr.heap.size) := Lib.hid (fun e => by have := (HOW.out.lt _ e).2; omega)
    obtain ⟨⟨y0, y1⟩, -⟩ := bx2 hbox
    have hboxd : wA.drew.heap[wr.heap.size]? = some (.cells #[.string x.nm, .slice ta x.tk.length tc] 25 (0, 0)) := hbox
    obtain ⟨⟨d0, d1⟩, -⟩ := bx2 hboxd
    have HBX := Lib.hid hboxd
    generalize wr.heap.size = bx at *
    clear hwA hbox hboxd hbA hbD hBA c0 c1
    have HRS : Hid (L.take (k + 1) = L.take k ++ [x]) := Lib.hid (by
      obtain ⟨h1, h2⟩ := List.getElem?_eq_some_iff.1 HX.out
      rw [List.take_succ_eq_append_getElem h1, h2])
    have HLN : Hid ((L.take (k + 1)).length = k + 1) := Lib.hid (by rw [HRS.out, List.length_append, HP.out]; rfl)
    go_region_held3 (fun w' => w'.cell? ⟨bx, 0, none⟩ = some (.string x.nm) ∧ w'.cell? ⟨bx, 1, none⟩ = some (.slice ta x.tk.length tc)) (first | (with_reducible exact ⟨y0, y1⟩) | (with_reducible exact ⟨d0, d1⟩) | (with_reducible exact ⟨z0, z1⟩) | (with_reducible exact ⟨r0, r1⟩) | go_keep) (first
      | (go_at_call 108; refine (clone_u64 _ _ x.tk _ HTA.out.1 (by omega)).mono ?_; rintro e w2 ⟨t', rfl, hown2, hb2⟩; obtain ⟨ro, rc, rfl, -, -, -⟩ := own_shape hown2; have z0 := (hb2.cell (p := ⟨bx, 0, none⟩) (cell_lt d0)).trans d0; have z1 := (hb2.cell (p := ⟨bx, 1, none⟩) (cell_lt d0)).trans d1; have HO2 := Lib.hid (own_below HOA.out hb2); have HT2 := Lib.hid hown2; have HB2 := Lib.hid hb2; have HBW2 := Lib.hid (HBA.out.trans (hb2.mono hsA)); have HBX2 := Lib.hid ((hb2.block _ (Array.getElem?_eq_some_iff.1 HBX.out).1).trans HBX.out))
      | (refine step_app1 [.string x.nm, .slice ro x.tk.length rc] elNd rfl _ _ rfl HO2.out HBW2.out (Nat.le_refl _) HBW2.out.size rfl rfl rfl (by intro x hx; simp at hx; rcases hx with rfl | rfl <;> rfl) (by omega) (by omega) ?_; intro g cap w3 hown3 hbel3 hgr3; obtain ⟨⟨r0, r1⟩, -⟩ := bx2 (grown_block2 hgr3 HNE.out HBX2.out); have HON : Hid (Ow (NdB 25 w.heap.size) 2 25 w.heap.size w3 _ (L.take (k + 1))) := Lib.hid (by rw [HRS.out]; exact Ow.snoc ndB_grow HPP.out.1 HPP.out.2.1 (fun q hq => ndB_mono _ _ _ _ (HPA.out q hq) HB2.out) HO2.out HP.out.symm hgr3 hown3 rfl ⟨_, rfl, ⟨own_sl HT2.out, HTA.out.2⟩, Apart.own HT2.out (by decide)⟩); have HBN := Lib.hid hbel3))
    all_goals
      go_wp2_with fail
      go_roundw
      case rel => exact ⟨k + 1, by omega, by go_num, HLN, HON, HBN.out⟩
      case measure => simp [intOf]; omega
end Go.Proofs.Ytcljeedmiobepaa.Rng
/-
  copy at elements of whatever size; what slices.Insert leaves, as own rows.
-/
namespace Go.Gh
open Go.RowKit
set_option linter.unusedVariables false
theorem setCells_eq (b : Nat) : ∀ (vs : List Value) (o : Nat) (w : World), w.setCells b o vs = setCells w b o vs
  | [], _, _ => rfl
  | v :: vs, o, w => by rw [World.setCells, setCells, setCells_eq b vs]
theorem run_copy_k {P : Program} (w : World) (dT sT ty elem : TypeId) (k b o dLen dCap : Nat) (a : Addr) (sLen sCap m : Nat) (cs : List Value)
    (hu : P.underlying dT = some (.slice elem)) (hs : (P.info? elem).map (·.size) = some k) (hm : Nat.min sLen dLen = m) (hn : cs.length = m * k)
    (hsrc : ∀ j v, cs[j]? = some v → w.cell? (a.add j) = some v) (hc : ∀ j, j < cs.length → (w.cell? ⟨b, o + j, none⟩).isSome = true) (hf : ∀ j, j < cs.length → w.frozen? ⟨b, o + j, none⟩ = false) (h1 : ∀ v ∈ cs, v.oneCell' = true) :
    (Builtin.copy_ #[dT, sT] ty #[.slice (some ⟨b, o, none⟩) dLen dCap, .slice (some a) sLen sCap]).run P w = .ok (goInt m) (setCells w b o cs) := by
  have hl := run_loadCells_list (P := P) w a cs hsrc
  have hst := run_storeCells_cells (P := P) b o cs 0 w (by simpa using hc) (by simpa using hf) h1
  rw [hn] at hl
  rw [← setCells_eq]
  cases hq : P.info? elem with
  | none => simp [hq] at hs
  | some i =>
    have hi : i.size = k := by simpa [hq] using hs
    simp [Builtin.copy_, run_underlying hu, Builtin.lenOf, Builtin.firstCells, sizeOf, typeInfo, hq, hi, hm, hl, hst]
theorem wp_copy_run' {P : Program} (w : World) {o : Oper} {a : Act} {K : Act → World → Prop} {Q : Exit → Act → World → Prop} (d s : Operand) (t t' : TypeId)
    (ho : o.op = .call { callee := .builtin .copy, args := #[d, s], argTypes := #[t, t'] }) (v u : Value) (hd : a.eval d = v) (hs : a.eval s = u) {v' : Value} {w' : World}
    (hr : (Builtin.copy_ #[t, t'] o.type #[v, u]).run P w = .ok v' w') (h : K (a.put o.dst v') w') : o.wp P a w K Q := by
  unfold Oper.wp execOp
  simp only [ho, resolve, invoke, builtin, Sem.run_bind, Sem.run_pure, Result.andThen_ok, List.map_toArray, List.map_cons, List.map_nil, hd, hs, hr]
  exact h
theorem wpList_copy_run' {P : Program} (w : World) {ops : Array Oper} {rest : List Oper} {o : Oper} {a : Act} {Q : Exit → Act → World → Prop} (hgd : o.guard = none) (d s : Operand) (t t' : TypeId)
    (ho : o.op = .call { callee := .builtin .copy, args := #[d, s], argTypes := #[t, t'] }) (v u : Value) (hd : a.eval d = v) (hs : a.eval s = u) {v' : Value} {w' : World}
    (hr : (Builtin.copy_ #[t, t'] o.type #[v, u]).run P w = .ok v' w') (h : wpList P ops Q rest (a.put o.dst v') w') : wpList P ops Q (o :: rest) a w :=
  wpList_plain hgd fun _ hK => wp_copy_run' w d s t t' ho v u hd hs hr (hK _ _ h)
theorem step_copy_run' {P : Program} {ops : Array Oper} {o : Oper} {a : Act} {w : World} {K : Act → World → Prop} {Q : Exit → Act → World → Prop} {E : Prop}
    (hg : o.guard = none) (d x : Operand) (dT sT : TypeId) (hop : o.op = Op.call { callee := Callee.builtin Builtin.copy, args := #[d, x], argTypes := #[dT, sT] })
    (v u : Value) (hd : a.eval d = v) (hx : a.eval x = u) {v' : Value} {w' : World} (hr : (Builtin.copy_ #[dT, sT] o.type #[v, u]).run P w = .ok v' w') (hK : K (a.put o.dst v') w') :
    if Region.wanted o (yielded ops a.tmps) = true then Oper.wp P o a w K Q else E := by
  have hw : Region.wanted o (yielded ops a.tmps) = true := by simp [Region.wanted, hg]
  rw [if_pos hw]
  exact wp_copy_run' w d x dT sT hop v u hd hx hr hK
/-- What a copy into a row of the call's own leaves. -/
theorem copy_own {P : Program} {w : World} {dT sT ty e : TypeId} {k g n cap o dLen dCap sLen sCap m B : Nat} {a : Addr} {xs cs : List Value} (ht : P.underlying dT = some (.slice e)) (hs : (P.info? e).map (·.size) = some k) (h : w.ownsRow B e k (.slice (some ⟨g, 0, none⟩) n cap) n xs)
    (hm : Nat.min sLen dLen = m) (hn : cs.length = m * k) (hfit : o + m * k ≤ n * k) (hsrc : ∀ j v, cs[j]? = some v → w.cell? (a.add j) = some v) (h1 : ∀ v ∈ cs, v.oneCell' = true) :
    (Builtin.copy_ #[dT, sT] ty #[.slice (some ⟨g, o, none⟩) dLen dCap, .slice (some a) sLen sCap]).run P w = .ok (goInt m) (setCells w g o cs) ∧ (setCells w g o cs).ownsRow B e k (.slice (some ⟨g, 0, none⟩) n cap) n (setFrom xs o cs) := by
  have hl : xs.length = n * k := h.1
  refine ⟨run_copy_k w dT sT ty e k g o dLen dCap a sLen sCap m cs ht hs hm hn hsrc (fun j hj => ?_) (fun j hj => h.frozenAt _) h1, own_stores cs w o xs h⟩
  have hx : o + j < xs.length := by omega
  have hc := h.cells (g := g) rfl (o + j) _ (List.getElem?_eq_getElem hx)
  rw [addr_add, Nat.zero_add] at hc
  rw [hc]
  rfl
theorem drew_setCells' (b : Nat) : ∀ (vs : List Value) (o : Nat) (w : World), (setCells w b o vs).drew = setCells w.drew b o vs
  | [], _, _ => rfl
  | v :: r, o, w => by rw [setCells, setCells, drew_setCells' b r]; rfl
theorem grown_cells {w : World} {b : Nat} {r : Option Nat} (hb : w.heap.size ≤ b ∨ r = some b) : ∀ (us : List Value) (w' : World) (k : Nat), w.grownBy w' r → w.grownBy (setCells w' b k us) r
  | [], w', k, h => h
  | u :: us, w', k, h => grown_cells hb us _ (k + 1) ⟨h.os, h.tape, h.output, by simpa using h.size, fun j hj hne => by
      rw [Below.heap_setCell w' ⟨b, k, none⟩ u j (fun e => by
        rcases hb with hb | hb
        · dsimp only at e; omega
        · exact hne (by rw [hb]; dsimp only at e; rw [e]))]
      exact h.block j hj hne⟩
/-- A row that grows by zero values behind its head. -/
theorem zeros_row {w : World} {e : TypeId} {k n i B old : Nat} {z : Value} {xs : List Value} (hz : z.cells.size = k) (hl : xs.length = i * k) (hi : i ≤ n) (hold : old < n) (hB : B ≤ w.heap.size) (hn : n ≤ maxLen) :
    (w.drew.alloc (.cells (xs.toArray ++ Builtin.zeroCells z.cells (n - i) ++ Builtin.zeroCells z.cells (grownCap w n old e - n)) e)).ownsRow B e k (.slice (some ⟨w.heap.size, 0, none⟩) n (grownCap w n old e)) n (xs ++ (Builtin.zeroCells z.cells (n - i)).toList) ∧ ((Builtin.zeroCells z.cells (n - i)).toList).length = (n - i) * k := by
  have hzl : ((Builtin.zeroCells z.cells (n - i)).toList).length = (n - i) * k := by rw [Array.length_toList, size_zeroCells, hz]
  have := grown_row w (e := e) (old := old) z hz (xs ++ (Builtin.zeroCells z.cells (n - i)).toList) (n := n) (by rw [List.length_append, hl, hzl, ← Nat.add_mul]; congr 1; omega) hold hn hB
  refine ⟨?_, hzl⟩
  rw [show xs.toArray ++ Builtin.zeroCells z.cells (n - i) = (xs ++ (Builtin.zeroCells z.cells (n - i)).toList).toArray from by simp]
  exact this
/-- A row is taken an element longer, into its spare room. -/
theorem own_longer {w : World} {B : Nat} {e : TypeId} {k g n cap : Nat} {xs : List Value} (h : w.ownsRow B e k (.slice (some ⟨g, 0, none⟩) n cap) n xs) (hc : n + 1 ≤ cap) :
    ∃ J : List Value, J.length = k ∧ w.ownsRow B e k (.slice (some ⟨g, 0, none⟩) (n + 1) cap) (n + 1) (xs ++ J) := by
  obtain ⟨hl, h2⟩ := h
  rcases h2 with ⟨e1, _⟩ | ⟨g', cap', cur, e1, hb, hg, hnc, hcm, hsz, htk⟩
  · simp at e1
  · simp at e1
    obtain ⟨rfl, rfl⟩ := e1
    have hcl : cur.toList.length = cap * k := by rw [Array.length_toList, hsz]
    have hle : (n + 1) * k ≤ cap * k := Nat.mul_le_mul_right _ hc
    have hnk : (n + 1) * k = n * k + k := Nat.succ_mul _ _
    refine ⟨(cur.toList.drop (n * k)).take k, by rw [List.length_take, List.length_drop, hcl]; omega, ?_, Or.inr ⟨g, cap, cur, rfl, hb, hg, hc, hcm, hsz, ?_⟩⟩
    · rw [List.length_append, hl, List.length_take, List.length_drop, hcl, hnk]; omega
    · rw [hnk, List.take_add, htk]
theorem ins_grow {xs Z c : List Value} {k n i : Nat} (hx : xs.length = n * k) (hi : i ≤ n) (hc : c.length = k) (hZ : Z.length = (n + 1 - i) * k) :
    setFrom (setFrom (xs.take (i * k) ++ Z) (i * k) c) ((i + 1) * k) (xs.drop (i * k)) = xs.take (i * k) ++ (c ++ xs.drop (i * k)) := by
  have hik : i * k ≤ n * k := Nat.mul_le_mul_right _ hi
  have h1 : (xs.take (i * k)).length = i * k := by rw [List.length_take]; omega
  have hZ2 : (n + 1 - i) * k = k + (n - i) * k := by rw [show n + 1 - i = (n - i) + 1 from by omega, Nat.succ_mul, Nat.add_comm]
  have hni : (n - i) * k = n * k - i * k := Nat.sub_mul _ _ _
  have e1 : Z = Z.take k ++ Z.drop k := (List.take_append_drop k Z).symm
  have h2 : setFrom (xs.take (i * k) ++ Z) (i * k) c = xs.take (i * k) ++ c ++ Z.drop k := by
    conv => lhs; rw [e1, ← List.append_assoc]
    conv => lhs; arg 2; rw [← h1]
    exact setFrom_mid c (Z.take k) (xs.take (i * k)) (Z.drop k) (by rw [List.length_take]; omega)
  rw [h2]
  have h3 := setFrom_mid (xs.drop (i * k)) (Z.drop k) (xs.take (i * k) ++ c) [] (by rw [List.length_drop, List.length_drop]; omega)
  rw [List.append_nil, List.append_nil, List.length_append, h1, hc] at h3
  rw [Nat.succ_mul, h3, List.append_assoc]
theorem ins_shift {xs J c : List Value} {k n i : Nat} (hx : xs.length = n * k) (hi : i ≤ n) (hc : c.length = k) (hJ : J.length = k) :
    setFrom (setFrom (xs ++ J) ((i + 1) * k) (xs.drop (i * k))) (i * k) c = xs.take (i * k) ++ (c ++ xs.drop (i * k)) := by
  have hik : i * k ≤ n * k := Nat.mul_le_mul_right _ hi
  have hsk : (i + 1) * k = i * k + k := Nat.succ_mul _ _
  have hl : (xs ++ J).length = n * k + k := by rw [List.length_append, hx, hJ]
  have h1 : ((xs ++ J).take ((i + 1) * k)).length = (i + 1) * k := by rw [List.length_take]; omega
  have e1 : xs ++ J = (xs ++ J).take ((i + 1) * k) ++ (xs ++ J).drop ((i + 1) * k) := (List.take_append_drop _ _).symm
  have h2 : setFrom (xs ++ J) ((i + 1) * k) (xs.drop (i * k)) = (xs ++ J).take ((i + 1) * k) ++ xs.drop (i * k) := by
    have := setFrom_mid (xs.drop (i * k)) ((xs ++ J).drop ((i + 1) * k)) ((xs ++ J).take ((i + 1) * k)) [] (by rw [List.length_drop, List.length_drop]; omega)
    rw [List.append_nil, List.append_nil, h1, ← e1] at this
    exact this
  have h3 : (xs ++ J).take ((i + 1) * k) = xs.take (i * k) ++ ((xs ++ J).drop (i * k)).take k := by
    rw [hsk, List.take_add, List.take_append_of_le_length (by omega)]
  rw [h2, h3]
  have h4 := setFrom_mid c (((xs ++ J).drop (i * k)).take k) (xs.take (i * k)) (xs.drop (i * k)) (by rw [List.length_take, List.length_drop]; omega)
  have h5 : (xs.take (i * k)).length = i * k := by rw [List.length_take]; omega
  rw [h5] at h4
  rw [h4, List.append_assoc]
end Go.Gh
/-
  The ring: slices.Clone and slices.Delete at nodes.
-/
namespace Go.Proofs.Ytcljeedmiobepaa.Rng
open Go.RowKit Go.Gh Go.Proofs.Ytcljeedmiobepaa.Nod
set_option linter.unusedVariables false
theorem nd_one {w : World} {x : Nd} {c : List Value} (h : NdR w x c) : ∀ u ∈ c, u.oneCell' = true := by
  obtain ⟨t, rfl, ht⟩ := h
  obtain ⟨ao, cap, rfl, -, -, -⟩ := ht.1.shape
  intro u hu
  simp at hu
  rcases hu with rfl | rfl <;> rfl
theorem pc_one {P : List (Nd × List Value)} (h : ∀ p ∈ P, ∀ u ∈ p.2, u.oneCell' = true) : ∀ u ∈ pc P, u.oneCell' = true := by
  intro u hu
  unfold pc at hu
  obtain ⟨p, hp, hu⟩ := List.mem_flatMap.1 hu
  exact h p hp u hu
/-- A row of one's own, seen shorter. -/
theorem own_shorter {w : World} {B : Nat} {e : TypeId} {k g n cap m : Nat} {xs : List Value} (h : w.ownsRow B e k (.slice (some ⟨g, 0, none⟩) n cap) n xs) (hm : m ≤ n) : w.ownsRow B e k (.slice (some ⟨g, 0, none⟩) m cap) m (xs.take (m * k)) := by
  obtain ⟨hl, h2⟩ := h
  have hmk : m * k ≤ n * k := Nat.mul_le_mul_right _ hm
  rcases h2 with ⟨e1, _⟩ | ⟨g', cap', cur, e1, hb, hg, hnc, hcm, hsz, htk⟩
  · simp at e1
  · simp at e1
    obtain ⟨rfl, rfl⟩ := e1
    exact ⟨by rw [List.length_take]; omega, Or.inr ⟨g, cap, cur, rfl, hb, hg, by omega, hcm, hsz, by rw [← htk, List.take_take, Nat.min_eq_left hmk]⟩⟩
/-- clear of the last elements of a row of one's own. -/
theorem clear_own {P : Program} {w : World} {t e ty : TypeId} {k g n cap i m c B : Nat} {z : Value} {xs zs : List Value} (ht : P.underlying t = some (.slice e)) (hv : ∀ w, (zeroValue e).run P w = .ok z w) (hz : (Builtin.zeroCells z.cells (m + 1)).toList = zs)
    (h : w.ownsRow B e k (.slice (some ⟨g, 0, none⟩) n cap) n xs) (hzl : zs.length = (m + 1) * k) (hfit : i * k + (m + 1) * k ≤ n * k) (h1 : ∀ u ∈ zs, u.oneCell' = true) :
    (Builtin.clear_ #[t] ty #[.slice (some ⟨g, i * k, none⟩) (m + 1) c]).run P w = .ok (.tuple #[]) (setCells w g (i * k) zs) ∧ (setCells w g (i * k) zs).ownsRow B e k (.slice (some ⟨g, 0, none⟩) n cap) n (setFrom xs (i * k) zs) := by
  refine ⟨?_, own_stores zs w (i * k) xs h⟩
  have hl : xs.length = n * k := h.1
  have hst := run_storeCells_cells (P := P) g (i * k) zs 0 w (fun j hj => by
    have hx : i * k + j < xs.length := by omega
    have hc := h.cells (g := g) rfl (i * k + j) _ (List.getElem?_eq_getElem hx)
    rw [addr_add, Nat.zero_add] at hc
    rw [Nat.add_zero, hc]
    rfl) (fun j hj => h.frozenAt _) h1
  simp only [Nat.add_zero] at hst
  simp [Builtin.clear_, run_underlying ht, hv, hz, hst, setCells_eq]
set_option maxRecDepth 100000 in
theorem clone_node (v : Value) (L : List Nd) (w : World) (hs : Sp NdR 2 w v L) (hl : L.length ≤ 100) : Calls Try.prog 132 #[v] w fun e w' =>
    ∃ v', e = .returned v' ∧ Ow (NdA 25 w.heap.size) 2 25 w.heap.size w' v' L ∧ Below w.heap.size w w' := by
  obtain ⟨P, hP1, hP2, hP3, hv⟩ := hs
  obtain ⟨n, hn⟩ : ∃ n, L.length = n := ⟨_, rfl⟩
  rw [hn] at hv hl
  have hpl : P.length = n := by rw [← hn, ← hP1, List.length_map]
  obtain ⟨ao, c, rfl, hnc, hc, hlen⟩ := hv.shape
  have h1 := pc_one (fun p hp => nd_one (hP3 p hp))
  have HP := Lib.hid (And.intro hP1 (And.intro hP2 hP3))
  cases ao with
  | none =>
    have hn0 : n = 0 := by
      obtain ⟨ao', cap, h1, h2, _, h4, _, h6⟩ := hv
      simp at h1
      have := h4 h1.1.symm
      omega
    subst hn0
    have hl0 : L = [] := List.length_eq_zero_iff.1 hn
    subst hl0
    have he := Lib.run_eql_slice_nil (P := Try.prog) w 31 25 none 0 c 0 0 Try.underlying31
    clear hP1 hP2 hP3 h1 hv
    go_enter Try.func132, Try.ntmps132
    go_wp2_with fail
    go_ret
    exact ⟨_, rfl, Ow.nil, Below.refl _ _⟩
  | some a =>
    have he := Lib.run_eql_slice_nil (P := Try.prog) w 31 25 (some a) n c 0 0 Try.underlying31
    have ho := own_build (e := 25) (size := 2) (n := 0) w [] (Nat.le_refl _) rfl (by decide)
    have hs2 := hv.alloc (Obj.cells ([] : List Value).toArray 25)
    have HN := Lib.hid hl
    clear hlen hP1 hP2 hP3 hl
    go_enter Try.func132, Try.ntmps132
    go_wp2_with (at_builtin; refine appendS elNd rfl _ _ rfl ho ((Below.refl _ _).alloc (Nat.le_refl _) _) ?c1 rfl rfl hs2 h1 ?c2 ?c3 ?_)
    case c1 => simp
    case c2 => have := HN.out; omega
    case c3 => have := HN.out; omega
    intro v' w1 hown' hbel' _
    have HO : Hid (Ow (NdA 25 w.heap.size) 2 25 w.heap.size w1 v' L) := Lib.hid ⟨P, HP.out.1, HP.out.2.1, fun p hp => by
      obtain ⟨t, h1, ht⟩ := HP.out.2.2 p hp
      exact ⟨t, h1, ht.below hbel', fun hp => toks_apart ht hbel'.size hp⟩, by rw [hn]; simpa using hown'⟩
    have HB := Lib.hid hbel'
    clear hown' hbel'
    go_wp2
    go_ret
    exact ⟨v', rfl, HO.out, HB.out⟩
theorem zcNd : (Builtin.zeroCells (Value.agg #[.string ⟨#[]⟩, .slice none 0 0]).cells (0 + 1)).toList = [.string ⟨#[]⟩, .slice none 0 0] := by kernel_rfl
theorem infoNdz : (Try.prog.info? 25).map (fun i => (i.zero, i.size, i.bytes)) = some (some (.agg #[.string ⟨#[]⟩, .slice none 0 0]), 2, 40) := by kernel_rfl
theorem setFrom_take : ∀ (us xs : List Value) (k o : Nat), o ≤ k → (setFrom xs k us).take o = xs.take o
  | [], xs, k, o, h => rfl
  | u :: us, xs, k, o, h => by
    show (setFrom (xs.set k u) (k + 1) us).take o = _
    rw [setFrom_take us _ _ _ (by omega), List.take_set, List.set_eq_of_length_le (by rw [List.length_take]; omega)]
theorem del_list {xs Z : List Value} {n i k : Nat} (hx : xs.length = n * k) (hi : i < n) : (setFrom (setFrom xs (i * k) (xs.drop ((i + 1) * k))) ((n - 1) * k) Z).take ((n - 1) * k) = xs.take (i * k) ++ xs.drop ((i + 1) * k) := by
  have hik : (i + 1) * k ≤ n * k := Nat.mul_le_mul_right _ hi
  have hk1 : (i + 1) * k = i * k + k := Nat.succ_mul _ _
  have hn1 : (n - 1) * k = n * k - k := by rw [Nat.sub_mul, Nat.one_mul]
  have hm : (n - 1 - i) * k = n * k - k - i * k := by rw [Nat.sub_mul, hn1]
  have e : setFrom xs (i * k) (xs.drop ((i + 1) * k)) = xs.take (i * k) ++ xs.drop ((i + 1) * k) ++ xs.drop ((n - 1) * k) := by
    have hsplit : xs = xs.take (i * k) ++ (xs.drop (i * k)).take ((n - 1 - i) * k) ++ xs.drop ((n - 1) * k) := by
      conv => lhs; rw [← List.take_append_drop (i * k) xs, ← List.take_append_drop ((n - 1 - i) * k) (xs.drop (i * k))]
      rw [List.drop_drop, ← List.append_assoc]
      congr 2
      omega
    have hl : (xs.take (i * k)).length = i * k := by rw [List.length_take]; omega
    conv => lhs; arg 1; rw [hsplit]
    conv => lhs; arg 2; rw [← hl]
    rw [setFrom_mid _ _ _ _ (by rw [List.length_take, List.length_drop, List.length_drop, hk1]; omega)]
  rw [e]
  have hl2 : (xs.take (i * k) ++ xs.drop ((i + 1) * k)).length = (n - 1) * k := by rw [List.length_append, List.length_take, List.length_drop, hk1]; omega
  rw [setFrom_take _ _ _ _ (Nat.le_refl _), List.take_append_of_le_length (Nat.le_of_eq hl2.symm), List.take_of_length_le (Nat.le_of_eq hl2)]
set_option maxHeartbeats 8000000 in
set_option maxRecDepth 100000 in
theorem delete_nd (n i B g cap : Nat) (xs : List Value) (w : World) (hown : w.ownsRow B 25 2 (.slice (some ⟨g, 0, none⟩) n cap) n xs) (hi : i < n) (hn : n ≤ 1000000) (h1 : ∀ u ∈ xs, u.oneCell' = true) :
    Calls Try.prog 133 #[.slice (some ⟨g, 0, none⟩) n cap, .int .i64 i, .int .i64 ((i : Int) + 1)] w fun e w' => e = .returned (.slice (some ⟨g, 0, none⟩) (n - 1) cap) ∧ w'.ownsRow B 25 2 (.slice (some ⟨g, 0, none⟩) (n - 1) cap) (n - 1) (xs.take (i * 2) ++ xs.drop ((i + 1) * 2)) ∧ w.grownBy w' (some g) := by
  obtain ⟨m, rfl⟩ : ∃ m, n = m + 1 := ⟨n - 1, by omega⟩
  obtain ⟨ao', cap', e1, hnc, hcm, -⟩ := own_shape hown
  simp at e1
  obtain ⟨rfl, rfl⟩ := e1
  obtain ⟨i0, z0, hi0, hz0, hs0, hby0, hzs0⟩ := elNd.info
  obtain ⟨news, hnews⟩ : ∃ news, news = xs.drop ((i + 1) * 2) := ⟨_, rfl⟩
  have hxl : xs.length = (m + 1) * 2 := hown.1
  have hlen : news.length = (m - i) * 2 := by rw [hnews, List.length_drop, hxl]; omega
  have hcx : ∀ j u, xs[j]? = some u → w.drew.cell? ⟨g, j, none⟩ = some u := fun j u hj => by
    have hc := hown.cells (g := g) rfl j _ hj
    rw [addr_add, Nat.zero_add] at hc
    exact hc
  obtain ⟨A, hA, hsrc⟩ : ∃ A : Addr, (if cap = i + 1 then (some (⟨g, 0, none⟩ : Addr)) else some ⟨g, (i + 1) * 2, none⟩) = some A ∧ Hid (∀ t u, news[t]? = some u → w.drew.cell? (A.add t) = some u) := by
    by_cases h : cap = i + 1
    · refine ⟨⟨g, 0, none⟩, by simp [h], Lib.hid fun t u hu => ?_⟩
      have h0 : news.length = 0 := by rw [hlen]; omega
      rw [List.length_eq_zero_iff.1 h0] at hu
      simp at hu
    · refine ⟨⟨g, (i + 1) * 2, none⟩, by simp [h], Lib.hid fun t u hu => ?_⟩
      rw [hnews, List.getElem?_drop] at hu
      rw [addr_add]
      exact hcx _ _ hu
  have s1 : Hid (news.length = (m + 1 - (i + 1)) * 2) := Lib.hid (by rw [hlen]; omega)
  have s2 : Hid (∀ u ∈ news, u.oneCell' = true) := Lib.hid fun u hu => h1 u (by rw [hnews] at hu; exact List.mem_of_mem_drop hu)
  have s3 : Hid (∀ t, t < news.length → (w.drew.cell? ⟨g, 0 + i * 2 + t, none⟩).isSome = true ∧ w.drew.frozen? ⟨g, 0 + i * 2 + t, none⟩ = false) := Lib.hid fun t ht => by
    rw [hlen] at ht
    rw [Nat.zero_add]
    exact ⟨by rw [hcx _ _ (List.getElem?_eq_getElem (by rw [hxl]; omega))]; rfl, hown.frozenAt _⟩
  obtain ⟨W1, hW1⟩ : ∃ W1, W1 = w.drew.setCells g (0 + i * 2) news := ⟨_, rfl⟩
  have hownd : w.drew.ownsRow B 25 2 (.slice (some ⟨g, 0, none⟩) (m + 1) cap) (m + 1) xs := own_below hown (Below.refl _ _).drew
  have hW1o : W1.ownsRow B 25 2 (.slice (some ⟨g, 0, none⟩) (m + 1) cap) (m + 1) (setFrom xs (i * 2) news) := by
    rw [hW1, Nat.zero_add, setCells_eq]
    exact own_stores news _ _ xs hownd
  have hgr1 : w.grownBy W1 (some g) := by
    rw [hW1, Nat.zero_add, setCells_eq]
    exact grown_cells (Or.inr rfl) _ _ _ ⟨rfl, rfl, rfl, Nat.le_refl _, fun _ _ _ => rfl⟩
  have hcl := fun ty c => clear_own (P := Try.prog) (ty := ty) (c := c) (m := 0) (i := m) (zs := [.string ⟨#[]⟩, .slice none 0 0]) Try.underlying31 Try.zeroValue25 zcNd hW1o rfl (by omega) (by intro u hu; simp at hu; rcases hu with rfl | rfl <;> rfl)
  have hfin := (hcl 0 0).2
  have hfin2 := own_shorter hfin (m := m) (by omega)
  have hdl := del_list (Z := [.string ⟨#[]⟩, .slice none 0 0]) hxl (hi)
  rw [show m + 1 - 1 = m by omega, ← hnews] at hdl
  rw [hdl] at hfin2
  have hgr2 : w.grownBy (setCells W1 g ((m) * 2) [.string ⟨#[]⟩, .slice none 0 0]) (some g) := grown_cells (Or.inr rfl) _ _ _ hgr1
  have hcl2 := fun ty c => (hcl ty c).1
  rw [show m + 1 - 1 = m by omega, ← hnews]
  obtain ⟨W2, hW2⟩ : ∃ W2, W2 = setCells W1 g ((m) * 2) [.string ⟨#[]⟩, .slice none 0 0] := ⟨_, rfl⟩
  rw [← hW2] at hcl2 hfin2 hgr2
  have HF := Lib.hid (And.intro hfin2 hgr2)
  have HW : Hid (W1 = w.drew.setCells g (0 + i * 2) news) := Lib.hid hW1
  have hb1 : ((i : Int) == (i : Int) + 1) = false := by rw [beq_eq_false_iff_ne]; omega
  have hb2 : (cap = m) = False := eq_false (by omega)
  have hb3 : ((i : Int) + 1).toNat = i + 1 := by omega
  have hb4 : m + 1 - (m) = 0 + 1 := by omega
  have hic : i ≤ cap := by omega
  have hb5 : (i : Int) ≤ (m : Int) := by omega
  have hb6 : (0 : Int) ≤ (i : Int) + 1 := by omega
  have hb7 : i ≤ m := by omega
  have hjc : i + 1 ≤ cap := by omega
  clear hW1 hW2 hcl hfin hfin2 hgr2 hgr1 hW1o hownd hcx hnews hlen hown h1 hdl
  go_enter Try.func133, Try.ntmps133
  go_wp2_with fail
  go_region_law (refine step_append_room rfl (.tmp 22) (.tmp 25) 31 rfl 25 i0 2 Try.underlying31 hi0 hs0 g 0 i cap (by simp [Act.eval, Act.put]) A (m + 1 - (i + 1)) (cap - (i + 1)) news (by simp [Act.eval, Act.put]) s1.out hsrc.out s2.out (by omega) s3.out ?_; rw [← HW.out, show i + (m + 1 - (i + 1)) = m from by omega])
  go_wp2
  go_ret
  exact ⟨rfl, HF.out.1, HF.out.2⟩
end Go.Proofs.Ytcljeedmiobepaa.Rng
/-
  The ring: slices.CompactFunc of places, of a row of the call's own.
-/
namespace Go.Proofs.Ytcljeedmiobepaa.Rng
open Go.RowKit Go.Gh Go.Proofs.Ytcljeedmiobepaa.Nod
set_option linter.unusedVariables false
section
variable {w : World} {B g n cap i : Nat} {R : List Pl} {x : Pl}
theorem pk_enc (l : List Pl) : PK 2 (l.map fun x => (x, encP x)) := fun p hp => by obtain ⟨x, -, rfl⟩ := List.mem_map.1 hp; rfl
theorem own_elP (h : w.ownsRow B 186 2 (.slice (some ⟨g, 0, none⟩) n cap) n (encL R)) (hx : R[i]? = some x) (hi : i < n) :
    w.cell? ⟨g, i * 2, none⟩ = some (.int .u64 x.t) ∧ w.cell? ⟨g, i * 2 + 1, none⟩ = some (.string x.nm) ∧ w.frozen? ⟨g, i * 2, none⟩ = false ∧ w.frozen? ⟨g, i * 2 + 1, none⟩ = false := by
  rw [← pc_enc] at h
  obtain ⟨h1, h2⟩ := own_el (p := (x, encP x)) h (pk_enc R) (by rw [List.getElem?_map, hx]; rfl) hi
  exact ⟨h1 0 _ rfl, h1 1 _ rfl, h2 0, h2 1⟩
theorem own_overP (h : w.ownsRow B 186 2 (.slice (some ⟨g, 0, none⟩) n cap) n (encL R)) (hi : i < R.length) : (setCells w g (i * 2) (encP x)).ownsRow B 186 2 (.slice (some ⟨g, 0, none⟩) n cap) n (encL (R.set i x)) := by
  rw [← pc_enc] at h
  have := own_over (a := x) (c := encP x) h (pk_enc R) (i := i) (by rw [List.length_map]; exact hi) rfl
  rw [← pc_enc, List.map_set]
  exact this
theorem encL_take (l : List Pl) (k : Nat) : (encL l).take (k * 2) = encL (l.take k) := by
  rw [← pc_enc, pc_take (pk_enc l), ← pc_enc, List.map_take]
end
theorem zc_one (m : Nat) : ∀ u ∈ (Builtin.zeroCells (Value.agg #[.int .u64 0, .string ⟨#[]⟩]).cells m).toList, u.oneCell' = true := by
  intro u hu
  unfold Builtin.zeroCells at hu
  simp [Value.cells] at hu
  obtain ⟨i, -, rfl⟩ := hu
  rcases Nat.mod_two_eq_zero_or_one i with h | h <;> simp [h] <;> rfl
theorem cp_one (x : Pl) : cpF [x] = [x] := rfl
theorem cp_head : ∀ l : List Pl, l.take 1 = cpF (l.take 1)
  | [] => rfl
  | x :: r => rfl
theorem cp_full {l : List Pl} {k : Nat} {x y : Pl} (h : cpF (l.take (k + 1)) = l.take (k + 1)) (hx : l[k]? = some x) (hy : l[k + 1]? = some y) (hne : ¬ y.t = x.t) : cpF (l.take (k + 2)) = l.take (k + 2) := by
  rw [cp_succ hx hy, if_neg hne, h]
  obtain ⟨h3, h4⟩ := List.getElem?_eq_some_iff.1 hy
  rw [show l.take (k + 2) = l.take (k + 1) ++ [y] by rw [List.take_succ_eq_append_getElem h3, h4]]
/-- What the row holds while it is compacted: k places kept, the j-th is next. -/
structure CpR (l R : List Pl) (k j : Nat) : Prop where
  len : R.length = l.length
  le : k < j
  kept : R.take k = cpF (l.take j)
  rest : ∀ i, j ≤ i + 1 → R[i]? = l[i]?
theorem CpR.skip {l R : List Pl} {k j : Nat} {x y : Pl} (h : CpR l R k j) (hx : l[j - 1]? = some x) (hy : l[j]? = some y) (he : y.t = x.t) : CpR l R k (j + 1) := by
  obtain ⟨i, rfl⟩ : ∃ i, j = i + 1 := ⟨j - 1, by have := h.le; omega⟩
  rw [Nat.add_sub_cancel] at hx
  exact ⟨h.len, by have := h.le; omega, by rw [cp_succ hx hy, if_pos he]; exact h.kept, fun i' hi => h.rest i' (by omega)⟩
theorem CpR.put {l R : List Pl} {k j : Nat} {x y : Pl} (h : CpR l R k j) (hx : l[j - 1]? = some x) (hy : l[j]? = some y) (he : ¬ y.t = x.t) : CpR l (R.set k y) (k + 1) (j + 1) := by
  obtain ⟨i, rfl⟩ : ∃ i, j = i + 1 := ⟨j - 1, by have := h.le; omega⟩
  rw [Nat.add_sub_cancel] at hx
  have hl := h.le
  have hjl := (List.getElem?_eq_some_iff.1 hy).1
  have hk : k < R.length := by rw [h.len]; omega
  refine ⟨by rw [List.length_set]; exact h.len, by omega, ?_, fun i' hi => ?_⟩
  · rw [cp_succ hx hy, if_neg he, ← h.kept, List.take_succ_eq_append_getElem (by rw [List.length_set]; exact hk), List.getElem_set_self, List.take_set, List.set_eq_of_length_le (by rw [List.length_take]; omega)]
  · rw [List.getElem?_set_ne (by omega)]
    exact h.rest i' (by omega)
set_option maxHeartbeats 8000000 in
set_option maxRecDepth 100000 in
theorem compact_pl (v : Value) (B : Nat) (l : List Pl) (w : World) (h : w.ownsRow B 186 2 v l.length (encL l)) (hl : l.length ≤ 1000) (hB : B ≤ w.heap.size) :
    Calls Try.prog 128 #[v, .func (.func 129) #[] #[]] w fun e w' => ∃ v', e = .returned v' ∧ Sp PlR 2 w' v' (cpF l) ∧ Below B w w' := by
  obtain ⟨n, hn⟩ : ∃ n, l.length = n := ⟨_, rfl⟩
  by_cases h2 : n < 2
  · have HR : Hid (Sp PlR 2 w v (cpF l)) := Lib.hid (by
      have : cpF l = l := by
        match l, hn with
        | [], _ => rfl
        | [x], _ => rfl
        | x :: y :: r, hn => simp at hn; omega
      rw [this]
      exact sp_own h)
    rw [hn] at h
    obtain ⟨uo, uc, rfl, hu1, hu2, -⟩ := own_shape h
    have t1 : decide ((n : Int) < 2) = true := decide_eq_true (by omega)
    go_enter Try.func128, Try.ntmps128
    go_wp2_with fail
    go_ret
    exact ⟨_, rfl, HR.out, Below.refl _ _⟩
  rw [hn] at h hl
  obtain ⟨g, cap, rfl, hgB, hgl, hcap, hcapm, -⟩ := own_some h (by omega)
  have HN := Lib.hid hn
  have HO := Lib.hid h
  have t1 : decide ((n : Int) < 2) = false := decide_eq_false (by omega)
  have HH : Hid (l.take 1 = cpF (l.take 1)) := Lib.hid (cp_head l)
  clear h hn
  go_enter Try.func128, Try.ntmps128
  go_wp2_with fail
  go_loopw [5] (fun i wr => ∃ k : Nat, k + 1 ≤ n ∧ i = .int .i64 ((k : Int) + 1) ∧ Hid (cpF (l.take (k + 1)) = l.take (k + 1)) ∧ Hid (wr.ownsRow B 186 2 (.slice (some ⟨g, 0, none⟩) n cap) n (encL l)) ∧ Below B w wr) (fun i _ => n - (intOf i).toNat)
  case atStart => exact ⟨0, by omega, rfl, Lib.hid HH.out.symm, HO, Below.refl _ _⟩
  case round =>
    obtain ⟨k, hj, rfl, HK, HOW, hbel⟩ := hrel
    have hsz : B ≤ wr.heap.size := Nat.le_trans hB hbel.size
    by_cases hlt : k + 1 < n
    case neg =>
      have hjn : k + 1 = n := by omega
      have HR : Hid (Sp PlR 2 wr (.slice (some ⟨g, 0, none⟩) n cap) (cpF l)) := Lib.hid (by
        have e : l.take (k + 1) = l := List.take_of_length_le (by rw [HN.out]; omega)
        have := HK.out
        rw [e] at this
        rw [this]
        exact sp_own (by rw [HN.out]; exact HOW.out))
      go_wp2_with fail
      go_ret
      exact ⟨_, rfl, HR.out, hbel⟩
    obtain ⟨x, hx⟩ : ∃ x, l[k]? = some x := ⟨_, List.getElem?_eq_getElem (by rw [HN.out]; omega)⟩
    obtain ⟨y, hy⟩ : ∃ y, l[k + 1]? = some y := ⟨_, List.getElem?_eq_getElem (by rw [HN.out]; omega)⟩
    obtain ⟨x0, x1, -, -⟩ := own_elP HOW.out hx (by omega)
    obtain ⟨y0, y1, -, -⟩ := own_elP HOW.out hy hlt
    have HX := Lib.hid hx
    have HY := Lib.hid hy
    have HBL := Lib.hid hbel
    have hkn : k < n := by omega
    have hk0 : (0 : Int) ≤ (k : Int) := by omega
    have hk1 : (k : Int) < (n : Int) := by omega
    have hk2 : (k : Int) ≤ (n : Int) := by omega
    have hj0 : (0 : Int) ≤ (k : Int) + 1 := by omega
    have hj1 : (k : Int) + 1 < (n : Int) := by omega
    have hjt : ((k : Int) + 1).toNat = k + 1 := by omega
    have hwr : IntKind.i64.wrap (k : Int) = (k : Int) := by rw [IntKind.wrap_i64]; omega
    have hwr2 : IntKind.i64.wrap ((k : Int) + 1 - 1) = (k : Int) := by rw [IntKind.wrap_i64]; omega
    clear hx hy hbel
    obtain ⟨E, hE⟩ : ∃ E, (y.t == x.t) = E := ⟨_, rfl⟩
    have HE := Lib.hid hE
    clear hE
    go_wp2_with fail
    go_region_held3 (fun w' => w'.cell? ⟨g, (k + 1) * 2, none⟩ = some (.int .u64 y.t) ∧ w'.cell? ⟨g, (k + 1) * 2 + 1, none⟩ = some (.string y.nm) ∧ w'.cell? ⟨g, k * 2, none⟩ = some (.int .u64 x.t) ∧ w'.cell? ⟨g, k * 2 + 1, none⟩ = some (.string x.nm)) (first | (with_reducible exact ⟨y0, y1, x0, x1⟩) | (with_reducible exact ⟨z0, z1, z2, z3⟩) | go_keep) (first
      | (go_at_call 129; refine (sharelit_any y x _).mono ?_; rw [HE.out]; rintro e w2 ⟨rfl, hb2⟩; have z0 := (hb2.cell (p := ⟨g, (k + 1) * 2, none⟩) (cell_lt y0)).trans y0; have z1 := (hb2.cell (p := ⟨g, (k + 1) * 2 + 1, none⟩) (cell_lt y0)).trans y1; have z2 := (hb2.cell (p := ⟨g, k * 2, none⟩) (cell_lt y0)).trans x0; have z3 := (hb2.cell (p := ⟨g, k * 2 + 1, none⟩) (cell_lt y0)).trans x1))
    have hbd : Below wr.heap.size wr w2 := (Below.refl wr.heap.size wr).drew.trans hb2
    have HO2 : Hid (w2.ownsRow B 186 2 (.slice (some ⟨g, 0, none⟩) n cap) n (encL l)) := Lib.hid (own_below HOW.out hbd)
    have HB2 : Hid (Below B w w2) := Lib.hid (HBL.out.trans (hbd.mono hsz))
    clear hbd hb2 z0 z1 z2 z3 x0 x1 y0 y1
    cases E with
    | false =>
      have HK2 : Hid (cpF (l.take (k + 2)) = l.take (k + 2)) := Lib.hid (cp_full HK.out HX.out HY.out (by have := HE.out; simpa using this))
      go_wp2_with fail
      go_roundw
      case rel => exact ⟨k + 1, by omega, by go_num, HK2, HO2, HB2.out⟩
      case measure => simp [intOf]; omega
    | true =>
      have hyx : y.t = x.t := by have := HE.out; simpa using this
      have HC0 : Hid (CpR l l (k + 1) (k + 2)) := Lib.hid ⟨rfl, by omega, by rw [cp_succ HX.out HY.out, if_pos hyx, HK.out], fun i _ => rfl⟩
      clear hyx
      obtain ⟨m, hm⟩ : ∃ m, n - (k + 1) = m := ⟨_, rfl⟩
      have hcp : (cap = k + 1) = False := eq_false (by omega)
      have hkc : k + 1 ≤ cap := by omega
      go_wp2_with fail
      go_loopw [5, 7] (fun a b wr => ∃ (kk q : Nat) (R : List Pl), k + 2 + q ≤ n ∧ kk < k + 2 + q ∧ a = .int .i64 kk ∧ b = .int .i64 ((q : Int) + 1) ∧ Hid (CpR l R kk (k + 2 + q)) ∧ Hid (wr.ownsRow B 186 2 (.slice (some ⟨g, 0, none⟩) n cap) n (encL R)) ∧ Below B w wr) (fun _ b _ => n - (intOf b).toNat)
      case atStart => exact ⟨k + 1, 0, l, by omega, by omega, by go_num, rfl, HC0, HO2, HB2.out⟩
      case round =>
        obtain ⟨kk, q, R, hq, hkq, rfl, rfl, HC, HOR, hbel⟩ := hrel
        have hsz2 : B ≤ wr.heap.size := Nat.le_trans hB hbel.size
        have HBL2 := Lib.hid hbel
        clear hbel
        by_cases hlq : k + 2 + q < n
        case neg =>
          have hqn : k + 2 + q = n := by omega
          obtain ⟨r, hr⟩ : ∃ r, n - kk = r + 1 := ⟨n - kk - 1, by omega⟩
          obtain ⟨zs, hzs⟩ : ∃ zs, (Builtin.zeroCells (Value.agg #[.int .u64 0, .string ⟨#[]⟩]).cells (r + 1)).toList = zs := ⟨_, rfl⟩
          have hz1 : ∀ u ∈ zs, u.oneCell' = true := by rw [← hzs]; exact zc_one _
          have hzl : zs.length = (r + 1) * 2 := by rw [← hzs, Array.length_toList, size_zeroCells]; rfl
          have hcl := fun ty c => clear_own (P := Try.prog) (ty := ty) (c := c) (m := r) (i := kk) (zs := zs) Try.underlying182 Try.zeroValue186 hzs HOR.out hzl (by omega) hz1
          have hfin := own_shorter (hcl 0 0).2 (m := kk) (by omega)
          rw [setFrom_take _ _ _ _ (Nat.le_refl _), encL_take, HC.out.kept, hqn, List.take_of_length_le (Nat.le_of_eq HN.out)] at hfin
          have hcl2 := fun ty c => (hcl ty c).1
          have hbn := below_stores (B := B) (g := g) hgB zs wr (kk * 2) HBL2.out
          obtain ⟨W2, hW2⟩ : ∃ W2, W2 = setCells wr g (kk * 2) zs := ⟨_, rfl⟩
          rw [← hW2] at hcl2 hfin hbn
          have hlen : (cpF l).length = kk := by
            have h1 := congrArg List.length HC.out.kept
            rw [hqn, List.take_of_length_le (Nat.le_of_eq HN.out), List.length_take, HC.out.len, HN.out] at h1
            omega
          have HR : Hid (Sp PlR 2 W2 (.slice (some ⟨g, 0, none⟩) kk cap) (cpF l)) := Lib.hid (sp_own (by rw [hlen]; exact hfin))
          have HBN := Lib.hid hbn
          have hcp2 : (cap = kk) = False := eq_false (by omega)
          have hkc2 : kk ≤ cap := by omega
          have hkn2 : (kk : Int) ≤ (n : Int) := by omega
          have hk02 : (0 : Int) ≤ (kk : Int) := by omega
          clear hcl hfin hbn hW2 hlen hzs hz1 hzl
          go_wp2_with fail
          go_ret
          exact ⟨_, rfl, HR.out, HBN.out⟩
        obtain ⟨x2, hx2⟩ : ∃ x, l[k + 1 + q]? = some x := ⟨_, List.getElem?_eq_getElem (by rw [HN.out]; omega)⟩
        obtain ⟨y2, hy2⟩ : ∃ y, l[k + 2 + q]? = some y := ⟨_, List.getElem?_eq_getElem (by rw [HN.out]; omega)⟩
        obtain ⟨x0, x1, -, -⟩ := own_elP (i := k + 1 + q) HOR.out ((HC.out.rest _ (by omega)).trans hx2) (by omega)
        obtain ⟨y0, y1, -, -⟩ := own_elP (i := k + 2 + q) HOR.out ((HC.out.rest _ (by omega)).trans hy2) (by omega)
        rw [show (k + 1 + q) * 2 = (k + 1) * 2 + q * 2 by omega] at x0 x1
        rw [show (k + 2 + q) * 2 = (k + 1) * 2 + (q + 1) * 2 by omega] at y0 y1
        have HX2 := Lib.hid hx2
        have HY2 := Lib.hid hy2
        have hqm : q < m := by omega
        have hqm1 : q + 1 < m := by omega
        have hq0 : (0 : Int) ≤ (q : Int) := by omega
        have hq1 : (q : Int) < (m : Int) := by omega
        have hq2 : (q : Int) + 1 < (m : Int) := by omega
        have hq3 : (0 : Int) ≤ (q : Int) + 1 := by omega
        have hqt : ((q : Int) + 1).toNat = q + 1 := by omega
        have hqw : IntKind.i64.wrap (q : Int) = (q : Int) := by rw [IntKind.wrap_i64]; omega
        have hqw2 : IntKind.i64.wrap ((q : Int) + 1 - 1) = (q : Int) := by rw [IntKind.wrap_i64]; omega
        obtain ⟨E, hE⟩ : ∃ E, (y2.t == x2.t) = E := ⟨_, rfl⟩
        have HE2 := Lib.hid hE
        clear hE hx2 hy2
        go_wp2_with fail
        go_region_held3 (fun w' => w'.cell? ⟨g, (k + 1) * 2 + (q + 1) * 2, none⟩ = some (.int .u64 y2.t) ∧ w'.cell? ⟨g, (k + 1) * 2 + (q + 1) * 2 + 1, none⟩ = some (.string y2.nm) ∧ w'.cell? ⟨g, (k + 1) * 2 + q * 2, none⟩ = some (.int .u64 x2.t) ∧ w'.cell? ⟨g, (k + 1) * 2 + q * 2 + 1, none⟩ = some (.string x2.nm)) (first | (with_reducible exact ⟨y0, y1, x0, x1⟩) | (with_reducible exact ⟨z0, z1, z2, z3⟩) | go_keep) (first
          | (go_at_call 129; refine (sharelit_any y2 x2 _).mono ?_; rw [HE2.out]; rintro e w3 ⟨rfl, hb3⟩; have z0 := (hb3.cell (p := ⟨g, (k + 1) * 2 + (q + 1) * 2, none⟩) (cell_lt y0)).trans y0; have z1 := (hb3.cell (p := ⟨g, (k + 1) * 2 + (q + 1) * 2 + 1, none⟩) (cell_lt y0)).trans y1; have z2 := (hb3.cell (p := ⟨g, (k + 1) * 2 + q * 2, none⟩) (cell_lt y0)).trans x0; have z3 := (hb3.cell (p := ⟨g, (k + 1) * 2 + q * 2 + 1, none⟩) (cell_lt y0)).trans x1))
        have hbd : Below wr.heap.size wr w3 := (Below.refl wr.heap.size wr).drew.trans hb3
        have HO3 : Hid (w3.ownsRow B 186 2 (.slice (some ⟨g, 0, none⟩) n cap) n (encL R)) := Lib.hid (own_below HOR.out hbd)
        have HB3 : Hid (Below B w w3) := Lib.hid (HBL2.out.trans (hbd.mono hsz2))
        clear hbd hb3 x0 x1 y0 y1
        cases E with
        | true =>
          have HC2 : Hid (CpR l R kk (k + 2 + q + 1)) := Lib.hid (HC.out.skip (x := x2) (by rw [show k + 2 + q - 1 = k + 1 + q by omega]; exact HX2.out) HY2.out (by have := HE2.out; simpa using this))
          go_wp2_with fail
          go_roundw
          case rel => exact ⟨kk, q + 1, R, by omega, by omega, rfl, by go_num, HC2, HO3, HB3.out⟩
          case measure => simp [intOf]; omega
        | false =>
          have HC2 : Hid (CpR l (R.set kk y2) (kk + 1) (k + 2 + q + 1)) := Lib.hid (HC.out.put (x := x2) (by rw [show k + 2 + q - 1 = k + 1 + q by omega]; exact HX2.out) HY2.out (by have := HE2.out; simpa using this))
          have hkR : kk < R.length := by rw [HC.out.len, HN.out]; omega
          obtain ⟨u, hu⟩ : ∃ u, R[kk]? = some u := ⟨_, List.getElem?_eq_getElem hkR⟩
          obtain ⟨u0, u1, f0, f1⟩ := own_elP HO3.out hu (by omega)
          have hon := own_overP (x := y2) HO3.out hkR
          have hbn := below_stores (B := B) (g := g) hgB (encP y2) w3 (kk * 2) HB3.out
          unfold encP at hon hbn
          simp only [setCells] at hon hbn
          have HON := Lib.hid hon
          have HBN := Lib.hid hbn
          have hkn2 : (kk : Int) < (n : Int) := by omega
          have hkn3 : kk < n := by omega
          clear hon hbn hu hkR
          go_wp2_with fail
          go_roundw
          case rel => exact ⟨kk + 1, q + 1, _, by omega, by omega, by go_num, by go_num, HC2, HON, HBN.out⟩
          case measure => simp [intOf]; omega
end Go.Proofs.Ytcljeedmiobepaa.Rng
