/-
  Labels: the walk of LabelsOf.
-/
import Derived.Test.YtlfhcjhbnakamaaGreatDoorLt1
import Derived.Test.YtlfhcjhbnakamaaGreatDoorLt2
import Derived.Test.YtlfhcjhbnakamaaGreatDoorLt3
import Derived.Test.YtlfhcjhbnakamaaGreatDoorLt7
import Derived.Test.YtlfhcjhbnakamaaGreatDoorLt9
import Derived.ChangeKeysEq
import Derived.BigQuiet
import Derived.Laws.StructEq
import Derived.Deep.QuietTactic
import Derived.IntWalk
import Derived.Test.YtlfhcjhbnakamaaGreatDoorRows
import Derived.JoinedCond
import Derived.Lib.SmallJoins
import Derived.ProofKit
import Derived.OpenShut
import Derived.Lib.LaidTab
namespace Go.Proofs.YtlfhcjhbnakamaaGreatDoor.Lab
open Go.RowKit Go.Gh
set_option linter.unusedVariables false
def LoP (w : World) (r : Option (List Lb)) (e : Ending) (w' : World) : Prop := Below w.heap.size w w' ∧ match r with
  | none => ∃ ao n c, e = .returned (.tuple #[.slice ao n c, .bool false])
  | some ls => ∃ ao n c, e = .returned (.tuple #[.slice ao n c, .bool true]) ∧ Ow LbR 2 72 w.heap.size w' (.slice ao n c) ls
theorem loP_none {w w' : World} {r : Option (List Lb)} {e : Ending} {ao : Option Addr} {n c : Nat} (hr : r = none) (hb : Below w.heap.size w w') (he : e = .returned (.tuple #[.slice ao n c, .bool false])) : LoP w r e w' := by
  subst hr
  exact ⟨hb, ao, n, c, he⟩
theorem loP_some {w w' : World} {r : Option (List Lb)} {e : Ending} {ao : Option Addr} {n c : Nat} {ls : List Lb} (hr : r = some ls) (hb : Below w.heap.size w w') (he : e = .returned (.tuple #[.slice ao n c, .bool true])) (ho : Ow LbR 2 72 w.heap.size w' (.slice ao n c) ls) : LoP w r e w' := by
  subst hr
  exact ⟨hb, ao, n, c, he, ho⟩
set_option maxHeartbeats 8000000 in
set_option maxRecDepth 100000 in
theorem lbof_any (l : By) (w : World) (hsz : l.length ≤ 1048576) : Calls Tryz.prog 12 #[.string (mkS l)] w (LoP w (lbF l)) := by
  have HMA := Lib.hid (mats_any l w hsz)
  obtain ⟨X, hX⟩ : ∃ R, maF l = R := ⟨_, rfl⟩
  rw [hX] at HMA
  have HX := Lib.hid hX
  obtain ⟨R, hR⟩ : ∃ R, lbF l = R := ⟨_, rfl⟩
  rw [hR]
  have HR := Lib.hid hR
  obtain ⟨S, hS⟩ : ∃ z, mkS l = z := ⟨_, rfl⟩
  rw [hS] at HMA ⊢
  clear hX hR hS hsz
  cases X with
  | none =>
    have HN : Hid (R = none) := Lib.hid (by rw [← HR.out]; exact lbF_none (rm_ma_none (fun ms h => by rw [HX.out] at h; simp at h)))
    go_enter Tryz.func12, Tryz.ntmps12
    go_wp2_with (go_at_call 29; refine HMA.out.mono ?_; rintro e w1 ⟨hb1, rfl⟩; have HB1 := Lib.hid hb1; clear hb1)
    go_ret2
    exact loP_none HN.out HB1.out rfl
  | some mz =>
    obtain ⟨ms, z⟩ := mz
    obtain ⟨n, hn⟩ : ∃ n, ms.length = n := ⟨_, rfl⟩
    have HNN := Lib.hid hn
    have hn10 : n ≤ 10 := by rw [← hn]; exact (matchF_zero (ma_spec HX.out).1).1
    have HMA2 : Hid (Calls Tryz.prog 29 #[.string S] w fun e w' => Below w.heap.size w w' ∧ ∃ ao c, e = .returned (.tuple #[.slice ao n c, .string (mkS z), .bool true]) ∧ Ow MtR 3 70 w.heap.size w' (.slice ao n c) ms) := Lib.hid (HMA.out.mono (fun e w' h => by
      obtain ⟨hb, v, he, ho⟩ := h
      obtain ⟨ao, c, rfl, -, -⟩ := ho.sp.shapeN HNN.out
      exact ⟨hb, ao, c, he, ho⟩))
    clear hn HMA
    by_cases hz : z = []
    case neg =>
      have HN : Hid (R = none) := Lib.hid (by rw [← HR.out]; exact lbF_none (rm_ma_none (fun ms h => by rw [HX.out] at h; injection h with h; injection h with _ h; exact hz h)))
      obtain ⟨f1, f2⟩ := tl_ne hz
      generalize mkS z = Z at *
      clear hz
      go_enter Tryz.func12, Tryz.ntmps12
      go_wp2_with (go_at_call 29; refine HMA2.out.mono ?_; rintro e w1 ⟨hb1, ao, c, rfl, ho⟩; have HB1 := Lib.hid hb1; clear hb1 ho)
      go_ret2
      exact loP_none HN.out HB1.out rfl
    subst hz
    have HRM := Lib.hid (rm_ma_some HX.out)
    have HLR := Lib.hid (lb_ref HRM.out)
    rw [HR.out] at HLR
    have ez : mkS ([] : By) = ⟨#[]⟩ := rfl
    rw [ez] at HMA2
    clear ez
    go_enter Tryz.func12, Tryz.ntmps12
    go_wp2_with (go_at_call 29; refine HMA2.out.mono ?_; rintro e w1 ⟨hb1, ao, c, rfl, ho⟩; have HB1 := Lib.hid hb1; have HO1 := Lib.hid ho.sp; clear hb1 ho)
    have hs1 := HB1.out.size
    go_loopw [7, 24] (fun u i wr => ∃ (k : Nat), k ≤ n ∧ i = .int .i64 k ∧ Hid (∀ m ∈ ms.take k, m.kd = 1) ∧ Hid (Ow LbR 2 72 w1.heap.size wr u (asL (ms.take k))) ∧ Below w1.heap.size w1 wr) (fun _ i _ => n - (intOf i).toNat)
    case atStart => exact ⟨0, Nat.zero_le _, rfl, Lib.hid (fun m hm => by simp at hm), Lib.hid Ow.nil, Below.refl _ _⟩
    case round =>
      obtain ⟨k, hk, rfl, HIS, HO, hbel⟩ := hrel
      have hsz := hbel.size
      have HPL : Hid ((asL (ms.take k)).length = k) := Lib.hid (by rw [asL_len, List.length_take, HNN.out]; omega)
      obtain ⟨uo, uc, rfl, hu1, hu2⟩ := Sp.shapeN HO.out.sp HPL.out
      by_cases hlt : k < n
      case neg =>
        obtain rfl : k = n := by omega
        have HO2 : Hid (Ow LbR 2 72 w1.heap.size wr (.slice uo k uc) (asL ms)) := Lib.hid (by have := HO.out; rwa [List.take_of_length_le (by rw [HNN.out]; exact Nat.le_refl _)] at this)
        have HAI : Hid (allIs ms) := Lib.hid (by have := HIS.out; rwa [List.take_of_length_le (by rw [HNN.out]; exact Nat.le_refl _)] at this)
        have hbw := HB1.out.trans (hbel.mono hs1)
        have HBW := Lib.hid hbw
        have HLF := Lib.hid (lbfault_any _ (asL ms) wr HO2.out.sp)
        obtain ⟨E, hE⟩ : ∃ E, labelF (asL ms) = E := ⟨_, rfl⟩
        rw [hE] at HLF HLR
        clear hE hbw hbel
        by_cases hz : E = 0
        · subst hz
          have HN : Hid (R = some (asL ms)) := Lib.hid (by rw [HLR.out, if_pos ⟨HAI.out, rfl⟩])
          go_wp2_with (go_at_call 9; refine HLF.out.mono ?_; rintro e w5 ⟨rfl, hb5⟩; have HB5 := Lib.hid hb5; clear hb5)
          go_ret2
          exact loP_some HN.out (HBW.out.trans (HB5.out.mono HBW.out.size)) rfl ((HO2.out.mono hs1).below lbR_mono HB5.out)
        · have HN : Hid (R = none) := Lib.hid (by rw [HLR.out, if_neg (fun h => hz h.2)])
          have t1 : (E == 0) = false := beq_eq_false_iff_ne.2 hz
          clear hz
          go_wp2_with (go_at_call 9; refine HLF.out.mono ?_; rintro e w5 ⟨rfl, hb5⟩; have HB5 := Lib.hid hb5; clear hb5)
          go_ret2
          exact loP_none HN.out (HBW.out.trans (HB5.out.mono HBW.out.size)) rfl
      obtain ⟨x, hx⟩ : ∃ x, ms[k]? = some x := ⟨_, List.getElem?_eq_getElem (by rw [HNN.out]; exact hlt)⟩
      obtain ⟨b, off, cs, rfl, ⟨rfl, hl1, hl2, hl3, hl4⟩, _, hck⟩ := (HO1.out.below mtR_mono hbel).get hx
      have HXK := Lib.hid hx
      have c0 := hck 0 _ rfl
      have c1 := hck 1 _ rfl
      have c2 := hck 2 _ rfl
      rw [Nat.add_zero] at c0
      obtain ⟨P, hP1, hP2, hP3, hP4⟩ := HO.out
      rw [HPL.out] at hP4
      have HPP := Lib.hid (And.intro hP1 (And.intro hP2 hP3))
      have HOW := Lib.hid hP4
      have HMR : Hid (LbR w ⟨x.nm, x.vl⟩ [.string (mkS x.nm), .string (mkS x.vl)]) := Lib.hid ⟨rfl, hl1, hl2⟩
      obtain ⟨κ, hκ⟩ : ∃ z, z = x.kd := ⟨_, rfl⟩
      obtain ⟨Sn, hSn⟩ : ∃ S, S = mkS x.nm := ⟨_, rfl⟩
      obtain ⟨V, hV⟩ : ∃ S, S = mkS x.vl := ⟨_, rfl⟩
      rw [← hSn, ← hV] at HMR
      rw [← hκ] at c0
      rw [← hSn] at c1
      rw [← hV] at c2
      have HK := Lib.hid hκ
      clear hck hx hP1 hP2 hP3 hP4 hSn hV hl1 hl2 hl3 hl4 hκ
      go_upto_region 8 with (fail)
      obtain ⟨wA, hwA⟩ : ∃ wA, wA = wr.alloc (Obj.cells #[.int .i64 κ, .string Sn, .string V] 70) := ⟨_, rfl⟩
      have hbox : wA.heap[wr.heap.size]? = some (.cells #[.int .i64 κ, .string Sn, .string V] 70 (0, 0)) := by rw [hwA]; exact heap_alloc_new wr _
      have hbA : Below wr.heap.size wr wA := by rw [hwA]; exact (Below.refl _ _).alloc (Nat.le_refl _) _
      rw [← hwA]
      have HBA := Lib.hid (hbel.trans (hbA.mono hsz))
      have hO4 : wA.ownsRow w1.heap.size 72 2 (.slice uo k uc) k (pc P) := own_below HOW.out hbA
      obtain ⟨⟨d0, d1, d2⟩, -⟩ := bx3 hbox
      generalize wr.heap.size = bx at *
      clear hwA hbox hbA c0 c1 c2
      by_cases hk1 : κ = 1
      case neg =>
        have HN : Hid (R = none) := Lib.hid (by
          rw [HLR.out, if_neg]
          rintro ⟨h, -⟩
          exact hk1 (by rw [HK.out]; exact h x (List.mem_of_getElem? HXK.out)))
        have t1 : (κ != 1) = true := by rw [bne_iff_ne]; exact hk1
        clear hk1 hO4
        go_wp2_with fail
        go_ret2
        exact loP_none HN.out (HB1.out.trans (HBA.out.mono hs1)) rfl
      have HIS2 : Hid (∀ m ∈ ms.take (k + 1), m.kd = 1) := Lib.hid (fun m hm => by
        rw [List.take_add_one, HXK.out] at hm
        rcases List.mem_append.1 hm with h | h
        · exact HIS.out m h
        · have : m = x := by simpa using h
          rw [this, ← HK.out]; exact hk1)
      subst hk1
      go_wp2_with (at_builtin; refine append1 [.string Sn, .string V] elLb rfl _ _ rfl hO4 HBA.out HBA.out.size rfl rfl rfl (by intro x hx; simp at hx; rcases hx with rfl | rfl <;> rfl) ?c4 ?c5 ?_)
      case c4 => omega
      case c5 => omega
      intro v5 w5 hown5 hbel5 hgr5
      have HON : Hid (Ow LbR 2 72 w1.heap.size w5 v5 (asL (ms.take (k + 1)))) := Lib.hid (by
        rw [asL_take HXK.out]
        exact Ow.snoc (w := wA) (lbR_grow _ _ _) HPP.out.1 HPP.out.2.1 (fun q hq => HPP.out.2.2 q hq) hO4 HPL.out.symm hgr5 hown5 rfl HMR.out)
      have HB5 := Lib.hid hbel5
      obtain ⟨vo, vc, rfl, -, -, -⟩ := own_shape hown5
      clear hO4 hown5 hgr5 hbel5 d0 d1 d2
      go_wp2_with fail
      go_roundw
      case rel => exact ⟨k + 1, by omega, by go_num, HIS2, HON, HB5.out⟩
      case measure => simp [intOf]; omega
end Go.Proofs.YtlfhcjhbnakamaaGreatDoor.Lab
/-
  Two structs whose fields are all int64, held against each other.
-/
namespace Go.Gh
open Go.RowKit
set_option linter.unusedVariables false

/-- A struct type of k int64 fields, compared field by field. -/
def ints64 (P : Program) (t : TypeId) (k : Nat) : Bool :=
  (match P.underlying t with
  | some (.struct fs) => fs.size == k && (List.range k).all fun j => match fs[j]? with
    | some f => f.name != "_" && f.offset == j && (match P.underlying f.type with | some (.int .i64) => true | _ => false)
    | none => false
  | _ => false) && !P.stoodInHeld t && !P.eqGuardType P.depth t
theorem ints64_of {P : Program} {t : TypeId} {k : Nat} (h : ints64 P t k = true) : ∃ fs : Array Field, P.underlying t = some (.struct fs) ∧ fs.size = k ∧ P.stoodInHeld t = false ∧ P.eqGuardType P.depth t = false ∧
    ∀ (j : Nat) (f : Field), fs[j]? = some f → f.name ≠ "_" ∧ f.offset = j ∧ P.underlying f.type = some (.int .i64) := by
  unfold ints64 at h
  rw [Bool.and_eq_true, Bool.and_eq_true] at h
  obtain ⟨⟨h1, h2⟩, h3⟩ := h
  split at h1
  · rename_i fs hu
    rw [Bool.and_eq_true] at h1
    refine ⟨fs, hu, by simpa using h1.1, by simpa using h2, by simpa using h3, fun j f hj => ?_⟩
    have hk : fs.size = k := by simpa using h1.1
    have hjl : j < k := by rw [← hk]; exact (Array.getElem?_eq_some_iff.1 hj).1
    have := List.all_eq_true.1 h1.2 j (List.mem_range.2 hjl)
    rw [hj] at this
    simp only [Bool.and_eq_true] at this
    refine ⟨by simpa using this.1.1, by simpa using this.1.2, ?_⟩
    have h4 := this.2
    split at h4
    · assumption
    · simp at h4
  · simp at h1
theorem run_part_int {P : Program} {w : World} {t : TypeId} (hu : P.underlying t = some (.int .i64)) {xs : Array Value} {off : Nat} {v : Value} (hx : xs[off]? = some v) : (part t xs off).run P w = .ok v w := by
  simp [part, isAgg, run_underlying hu, hx]
theorem run_eqFields_ints {P : Program} {w : World} {d : Nat} {l m : List Int} : ∀ (fs : List Field) (j : Nat), (∀ (i : Nat) (f : Field), fs[i]? = some f → f.name ≠ "_" ∧ f.offset = j + i ∧ P.underlying f.type = some (.int .i64)) →
    l.length = j + fs.length → m.length = j + fs.length → (Op.eqFields (d + 1) (l.map (Value.int .i64)).toArray (m.map (Value.int .i64)).toArray fs).run P w = .ok (decide (l.drop j = m.drop j)) w
  | [], j, h, hl, hm => by
    simp only [List.length_nil, Nat.add_zero] at hl hm
    rw [List.drop_of_length_le (by omega), List.drop_of_length_le (by omega)]
    simp [Op.eqFields]
  | f :: fs, j, h, hl, hm => by
    obtain ⟨hn, ho, hu⟩ := h 0 f rfl
    rw [Nat.add_zero] at ho
    rw [List.length_cons] at hl hm
    have jl : j < l.length := by omega
    have jm : j < m.length := by omega
    have p1 : (part f.type (l.map (Value.int .i64)).toArray f.offset).run P w = .ok (.int .i64 l[j]) w := run_part_int hu (by rw [ho]; simp [jl])
    have p2 : (part f.type (m.map (Value.int .i64)).toArray f.offset).run P w = .ok (.int .i64 m[j]) w := run_part_int hu (by rw [ho]; simp [jm])
    have ih := run_eqFields_ints (P := P) (w := w) (d := d) (l := l) (m := m) fs (j + 1) (fun i g hg => by have := h (i + 1) g hg; rw [show j + 1 + i = j + (i + 1) from by omega]; exact this) (by omega) (by omega)
    simp only [Op.eqFields, hn, ne_eq, not_false_eq_true, if_true, Sem.run_bind, p1, p2, Result.andThen_ok, run_equalIn_int w d f.type .i64 .i64 l[j] m[j] hu]
    rw [List.drop_eq_getElem_cons jl, List.drop_eq_getElem_cons jm]
    generalize l.drop (j + 1) = A at *
    generalize m.drop (j + 1) = B at *
    by_cases he : l[j] = m[j]
    · rw [he]
      simp only [beq_self_eq_true, Bool.not_true, Bool.false_eq_true, if_false, List.cons.injEq, true_and]
      exact ih
    · have : (l[j] == m[j]) = false := by simpa using he
      simp only [this, Bool.not_false, if_true, List.cons.injEq, he, false_and, decide_false]
      rfl
theorem run_equal_ints {P : Program} {w : World} {t : TypeId} {k : Nat} (ht : ints64 P t k = true) {l m : List Int} (hl : l.length = k) (hm : m.length = k) :
    (Op.equalIn 10000 t (.agg (l.map (Value.int .i64)).toArray) (.agg (m.map (Value.int .i64)).toArray)).run P w = .ok (decide (l = m)) w := by
  obtain ⟨fs, hu, hk, hs, _, hf⟩ := ints64_of ht
  have hfo : P.fieldsOf t = fs := by unfold Program.fieldsOf; rw [hu]
  rw [show (10000 : Nat) = 9999 + 1 from rfl, run_equalIn_struct w 9999 t _ _ (by rw [hfo]; exact hu) hs, hfo]
  have := run_eqFields_ints (P := P) (w := w) (d := 9998) (l := l) (m := m) fs.toList 0 (fun i f h => by rw [Nat.zero_add]; exact hf i f (by simpa using h)) (by simp; omega) (by simp; omega)
  simpa using this
theorem exec_neq_ints {P : Program} {ρ : Operand → Value} {o : Oper} {w : World} {t t' : TypeId} {x y : Operand} {k : Nat} (ho : o.op = .binOp .neq t x y t') (ht : ints64 P t k = true) {l m : List Int} (hl : l.length = k) (hm : m.length = k)
    (hx : ρ x = .agg (l.map (Value.int .i64)).toArray) (hy : ρ y = .agg (m.map (Value.int .i64)).toArray) : (execOp ρ o).run P w = .ok (.value (.bool (!decide (l = m)))) w := by
  obtain ⟨_, _, _, _, hg, _⟩ := ints64_of ht
  unfold execOp
  rw [ho]
  simp only [Sem.run_bind, hx, hy, run_eqGuard_agg w _ _ _ _ _ _ hg, Result.andThen_ok, run_neq_struct, run_equal_ints ht hl hm]
  rfl
theorem quiet_of_run {P : Program} {o : Oper} {a : Act} {C : World → Prop} {K : Act → Prop} (v : Value) (h : ∀ w, (execOp a.eval o).run P w = .ok (.value v) w) (hk : K (a.put o.dst v)) : o.quiet P a C K :=
  ⟨v, fun w _ => by unfold Oper.quietAt; rw [h w]; exact ⟨rfl, rfl⟩, hk⟩
/-- Two lists are alike up to k. -/
def sameUp (l m : List (List Int)) (k : Nat) : Prop := ∀ i, i < k → l.getD i [] = m.getD i []
theorem sameUp_succ {l m : List (List Int)} {k : Nat} (h : sameUp l m k) (hk : l.getD k [] = m.getD k []) : sameUp l m (k + 1) := by
  intro i hi
  rcases Nat.lt_or_eq_of_le (Nat.le_of_lt_succ hi) with h' | h'
  · exact h i h'
  · rw [h']; exact hk
theorem same_all {l m : List (List Int)} (hlen : l.length = m.length) (h : sameUp l m l.length) : l = m := by
  refine List.ext_getElem hlen fun i h1 h2 => ?_
  have := h i h1
  rwa [List.getD_eq_getElem?_getD, List.getD_eq_getElem?_getD, List.getElem?_eq_getElem h1, List.getElem?_eq_getElem h2] at this
end Go.Gh
/-
  Two structs whose fields are integers and strings, held against each other.
-/
namespace Go.Gh
open Go.RowKit
set_option linter.unusedVariables false
def mixTy : Option TypeDesc → Bool
  | some (.int _) => true
  | some .string => true
  | _ => false
/-- A struct type of k fields of one cell each, integers or strings. -/
def mixed (P : Program) (t : TypeId) (k : Nat) : Bool :=
  (match P.underlying t with
  | some (.struct fs) => fs.size == k && (List.range k).all fun j => match fs[j]? with
    | some f => f.name != "_" && f.offset == j && mixTy (P.underlying f.type)
    | none => false
  | _ => false) && !P.stoodInHeld t && !P.eqGuardType P.depth t
/-- A cell is of its field's kind. -/
def cellOk (d : Option TypeDesc) (v : Value) : Prop := match d, v with
  | some (.int k), .int k' _ => k = k'
  | some .string, .string _ => True
  | _, _ => False
def eqCell : Value → Value → Bool
  | .int _ a, .int _ b => a == b
  | .string a, .string b => a.toList == b.toList
  | _, _ => false
def eqCells : List Value → List Value → Bool
  | [], [] => true
  | a :: l, b :: m => eqCell a b && eqCells l m
  | _, _ => false
theorem mixed_of {P : Program} {t : TypeId} {k : Nat} (h : mixed P t k = true) : ∃ fs : Array Field, P.underlying t = some (.struct fs) ∧ fs.size = k ∧ P.stoodInHeld t = false ∧ P.eqGuardType P.depth t = false ∧
    ∀ (j : Nat) (f : Field), fs[j]? = some f → f.name ≠ "_" ∧ f.offset = j ∧ mixTy (P.underlying f.type) = true := by
  unfold mixed at h
  rw [Bool.and_eq_true, Bool.and_eq_true] at h
  obtain ⟨⟨h1, h2⟩, h3⟩ := h
  split at h1
  · rename_i fs hu
    rw [Bool.and_eq_true] at h1
    refine ⟨fs, hu, by simpa using h1.1, by simpa using h2, by simpa using h3, fun j f hj => ?_⟩
    have hk : fs.size = k := by simpa using h1.1
    have hjl : j < k := by rw [← hk]; exact (Array.getElem?_eq_some_iff.1 hj).1
    have := List.all_eq_true.1 h1.2 j (List.mem_range.2 hjl)
    rw [hj] at this
    simp only [Bool.and_eq_true] at this
    exact ⟨by simpa using this.1.1, by simpa using this.1.2, this.2⟩
  · simp at h1
theorem run_part_mix {P : Program} {w : World} {t : TypeId} (hu : mixTy (P.underlying t) = true) {xs : Array Value} {off : Nat} {v : Value} (hx : xs[off]? = some v) : (part t xs off).run P w = .ok v w := by
  cases h : P.underlying t with
  | none => rw [h] at hu; simp [mixTy] at hu
  | some d =>
    rw [h] at hu
    cases d <;> simp [mixTy] at hu <;> simp [part, isAgg, run_underlying h, hx]
theorem run_equal_cell {P : Program} {w : World} {t : TypeId} {d : Nat} {a b : Value} (ha : cellOk (P.underlying t) a) (hb : cellOk (P.underlying t) b) : (Op.equalIn (d + 1) t a b).run P w = .ok (eqCell a b) w := by
  cases h : P.underlying t with
  | none => rw [h] at ha; cases a <;> simp [cellOk] at ha
  | some D =>
    rw [h] at ha hb
    cases D <;> cases a <;> simp [cellOk] at ha <;> cases b <;> simp [cellOk] at hb
    · subst ha
      subst hb
      exact run_equalIn_int w d t _ _ _ _ h
    · exact run_equalIn_string w d t _ _ h
theorem run_eqFields_mix {P : Program} {w : World} {d : Nat} {l m : List Value} : ∀ (fs : List Field) (j : Nat), (∀ (i : Nat) (f : Field), fs[i]? = some f → f.name ≠ "_" ∧ f.offset = j + i ∧ mixTy (P.underlying f.type) = true) →
    (∀ (i : Nat) (f : Field) (v : Value), fs[i]? = some f → l[j + i]? = some v → cellOk (P.underlying f.type) v) → (∀ (i : Nat) (f : Field) (v : Value), fs[i]? = some f → m[j + i]? = some v → cellOk (P.underlying f.type) v) →
    l.length = j + fs.length → m.length = j + fs.length → (Op.eqFields (d + 1) l.toArray m.toArray fs).run P w = .ok (eqCells (l.drop j) (m.drop j)) w
  | [], j, h, _, _, hl, hm => by
    simp only [List.length_nil, Nat.add_zero] at hl hm
    rw [List.drop_of_length_le (by omega), List.drop_of_length_le (by omega)]
    simp [Op.eqFields, eqCells]
  | f :: fs, j, h, ca, cb, hl, hm => by
    obtain ⟨hn, ho, hu⟩ := h 0 f rfl
    rw [Nat.add_zero] at ho
    rw [List.length_cons] at hl hm
    have jl : j < l.length := by omega
    have jm : j < m.length := by omega
    have p1 : (part f.type l.toArray f.offset).run P w = .ok l[j] w := run_part_mix hu (by rw [ho]; simp [jl])
    have p2 : (part f.type m.toArray f.offset).run P w = .ok m[j] w := run_part_mix hu (by rw [ho]; simp [jm])
    have k1 := ca 0 f l[j] rfl (by rw [Nat.add_zero]; exact List.getElem?_eq_getElem jl)
    have k2 := cb 0 f m[j] rfl (by rw [Nat.add_zero]; exact List.getElem?_eq_getElem jm)
    have sh : ∀ i, j + 1 + i = j + (i + 1) := fun i => by omega
    have ih := run_eqFields_mix (P := P) (w := w) (d := d) (l := l) (m := m) fs (j + 1) (fun i g hg => by have := h (i + 1) g hg; rw [sh]; exact this) (fun i g v hg hv => ca (i + 1) g v hg (by rw [sh] at hv; exact hv)) (fun i g v hg hv => cb (i + 1) g v hg (by rw [sh] at hv; exact hv)) (by omega) (by omega)
    simp only [Op.eqFields, hn, ne_eq, not_false_eq_true, if_true, Sem.run_bind, p1, p2, Result.andThen_ok, run_equal_cell k1 k2]
    rw [List.drop_eq_getElem_cons jl, List.drop_eq_getElem_cons jm, eqCells]
    cases eqCell l[j] m[j] with
    | true => simpa using ih
    | false => simp
def fieldDesc (P : Program) (t : TypeId) (i : Nat) : Option TypeDesc := match P.underlying t with
  | some (.struct fs) => (fs[i]?).bind fun f => P.underlying f.type
  | _ => none
theorem fieldDesc_at {P : Program} {t : TypeId} {fs : Array Field} {i : Nat} {f : Field} (hu : P.underlying t = some (.struct fs)) (hf : fs[i]? = some f) : fieldDesc P t i = P.underlying f.type := by
  unfold fieldDesc
  rw [hu]
  simp only [hf, Option.bind_some]
/-- The cells are of the fields' kinds. -/
def rowOk (P : Program) (t : TypeId) (l : List Value) : Prop := ∀ (i : Nat) (v : Value), l[i]? = some v → cellOk (fieldDesc P t i) v
theorem run_equal_mix {P : Program} {w : World} {t : TypeId} {k : Nat} (ht : mixed P t k = true) {l m : List Value} (hl : l.length = k) (hm : m.length = k) (hlo : rowOk P t l) (hmo : rowOk P t m) :
    (Op.equalIn 10000 t (.agg l.toArray) (.agg m.toArray)).run P w = .ok (eqCells l m) w := by
  obtain ⟨fs, hu, hk, hs, _, hf⟩ := mixed_of ht
  have hfo : P.fieldsOf t = fs := by unfold Program.fieldsOf; rw [hu]
  rw [show (10000 : Nat) = 9999 + 1 from rfl, run_equalIn_struct w 9999 t _ _ (by rw [hfo]; exact hu) hs, hfo]
  have := run_eqFields_mix (P := P) (w := w) (d := 9998) (l := l) (m := m) fs.toList 0 (fun i f h => by rw [Nat.zero_add]; exact hf i f (by simpa using h)) (fun i f v h hv => by rw [← fieldDesc_at hu (by simpa using h)]; exact hlo i v (by rw [Nat.zero_add] at hv; exact hv)) (fun i f v h hv => by rw [← fieldDesc_at hu (by simpa using h)]; exact hmo i v (by rw [Nat.zero_add] at hv; exact hv)) (by simp; omega) (by simp; omega)
  simpa using this
theorem exec_neq_mix {P : Program} {ρ : Operand → Value} {o : Oper} {w : World} {t t' : TypeId} {x y : Operand} {k : Nat} (ho : o.op = .binOp .neq t x y t') (ht : mixed P t k = true) {l m : List Value} (hl : l.length = k) (hm : m.length = k) (hlo : rowOk P t l) (hmo : rowOk P t m)
    (hx : ρ x = .agg l.toArray) (hy : ρ y = .agg m.toArray) : (execOp ρ o).run P w = .ok (.value (.bool (!eqCells l m))) w := by
  obtain ⟨_, _, _, _, hg, _⟩ := mixed_of ht
  unfold execOp
  rw [ho]
  simp only [Sem.run_bind, hx, hy, run_eqGuard_agg w _ _ _ _ _ _ hg, Result.andThen_ok, run_neq_struct, run_equal_mix ht hl hm hlo hmo]
  rfl
theorem eqCells_self {l : List Value} (h : ∀ v ∈ l, (∃ k a, v = .int k a) ∨ ∃ s, v = .string s) : eqCells l l = true := by
  induction l with
  | nil => rfl
  | cons v l ih =>
    rw [eqCells, ih (fun u hu => h u (by simp [hu]))]
    rcases h v (by simp) with ⟨k, a, rfl⟩ | ⟨s, rfl⟩
    · simp [eqCell]
    · simp [eqCell]
end Go.Gh
/-
  Labels: the walks of SameLabels and SameMatches (PRINTED by mklb10.py).
-/
namespace Go.Gh
instance decLb : DecidableEq Lb := fun a b => if h : a.nm = b.nm ∧ a.vl = b.vl then isTrue (by cases a; cases b; simp_all) else isFalse (fun e => h (by rw [e]; exact ⟨rfl, rfl⟩))
instance decMt : DecidableEq Mt := fun a b => if h : a.kd = b.kd ∧ a.nm = b.nm ∧ a.vl = b.vl then isTrue (by cases a; cases b; simp_all) else isFalse (fun e => h (by rw [e]; exact ⟨rfl, rfl, rfl⟩))
theorem take_same {α : Type} {L M : List α} {k : Nat} {x : α} (h : L.take k = M.take k) (hx : L[k]? = some x) (hy : M[k]? = some x) : L.take (k + 1) = M.take (k + 1) := by
  rw [List.take_add_one, List.take_add_one, h, hx, hy]
theorem get_ne {α : Type} {L M : List α} {k : Nat} {x y : α} (hx : L[k]? = some x) (hy : M[k]? = some y) (h : ¬ x = y) : ¬ L = M := by
  intro e
  rw [e, hy] at hx
  injection hx with hx
  exact h hx.symm
end Go.Gh
namespace Go.Proofs.YtlfhcjhbnakamaaGreatDoor.Lab
open Go.RowKit Go.Gh
set_option linter.unusedVariables false
theorem mixLb : mixed Tryz.prog 72 2 = true := by kernel_rfl
theorem mixMt : mixed Tryz.prog 70 3 = true := by kernel_rfl
theorem fdLb0 : fieldDesc Tryz.prog 72 0 = some .string := by kernel_rfl
theorem fdLb1 : fieldDesc Tryz.prog 72 1 = some .string := by kernel_rfl
theorem fdMt0 : fieldDesc Tryz.prog 70 0 = some (.int .i64) := by kernel_rfl
theorem fdMt1 : fieldDesc Tryz.prog 70 1 = some .string := by kernel_rfl
theorem fdMt2 : fieldDesc Tryz.prog 70 2 = some .string := by kernel_rfl
theorem row_ok_lb (a b : ByteArray) : rowOk Tryz.prog 72 [.string a, .string b] := by
  intro i v hv
  match i, hv with
  | 0, hv => (simp only [List.getElem?_cons_zero, List.getElem?_cons_succ, Option.some.injEq] at hv); subst hv; rw [fdLb0]; exact trivial
  | 1, hv => (simp only [List.getElem?_cons_zero, List.getElem?_cons_succ, Option.some.injEq] at hv); subst hv; rw [fdLb1]; exact trivial
theorem row_ok_mt (k : Int) (a b : ByteArray) : rowOk Tryz.prog 70 [.int .i64 k, .string a, .string b] := by
  intro i v hv
  match i, hv with
  | 0, hv => (simp only [List.getElem?_cons_zero, List.getElem?_cons_succ, Option.some.injEq] at hv); subst hv; rw [fdMt0]; exact rfl
  | 1, hv => (simp only [List.getElem?_cons_zero, List.getElem?_cons_succ, Option.some.injEq] at hv); subst hv; rw [fdMt1]; exact trivial
  | 2, hv => (simp only [List.getElem?_cons_zero, List.getElem?_cons_succ, Option.some.injEq] at hv); subst hv; rw [fdMt2]; exact trivial
theorem eq_lb (x y : Lb) : eqCells [.string (mkS x.nm), .string (mkS x.vl)] [.string (mkS y.nm), .string (mkS y.vl)] = decide (x = y) := by
  show (((mkS x.nm).toList == (mkS y.nm).toList) && (((mkS x.vl).toList == (mkS y.vl).toList) && true)) = _
  rw [mkS_list, mkS_list, mkS_list, mkS_list, Bool.and_true, Bool.eq_iff_iff]
  cases x; cases y
  simp
theorem eq_mt (x y : Mt) : eqCells [.int .i64 x.kd, .string (mkS x.nm), .string (mkS x.vl)] [.int .i64 y.kd, .string (mkS y.nm), .string (mkS y.vl)] = decide (x = y) := by
  show ((x.kd == y.kd) && (((mkS x.nm).toList == (mkS y.nm).toList) && (((mkS x.vl).toList == (mkS y.vl).toList) && true))) = _
  rw [mkS_list, mkS_list, mkS_list, mkS_list, Bool.and_true, Bool.eq_iff_iff]
  cases x; cases y
  simp
theorem ret_bool' {a b : Bool} (h : a = b) : Ending.returned (.bool a) = Ending.returned (.bool b) := by rw [h]
set_option maxHeartbeats 4000000 in
set_option maxRecDepth 100000 in
theorem samelb_any (v u : Value) (L M : List Lb) (w : World) (hs : Sp LbR 2 w v L) (ht : Sp LbR 2 w u M) : Calls Tryz.prog 13 #[v, u] w fun e w' => e = .returned (.bool (decide (L = M))) ∧ Below w.heap.size w w' := by
  obtain ⟨n, hn⟩ : ∃ n, L.length = n := ⟨_, rfl⟩
  obtain ⟨o, ho⟩ : ∃ n, M.length = n := ⟨_, rfl⟩
  obtain ⟨ao, c, rfl, hnc, hc⟩ := hs.shapeN hn
  obtain ⟨bo, d, rfl, hod, hd⟩ := ht.shapeN ho
  have HL := Lib.hid hn
  have HM := Lib.hid ho
  have HS := Lib.hid hs
  have HU := Lib.hid ht
  clear hs ht
  by_cases hno : n = o
  · subst hno
    clear hn ho
    go_enter Tryz.func13, Tryz.ntmps13
    go_wp2_with fail
    go_loopw [4, 5, 13] (fun r _ i wr => ∃ k : Nat, k ≤ n ∧ i = .int .i64 k ∧ r = .bool false ∧ Below w.heap.size w wr ∧ Hid (L.take k = M.take k)) (fun _ _ i _ => n - (intOf i).toNat)
    case atStart => exact ⟨0, by omega, rfl, rfl, Below.refl _ _, Lib.hid rfl⟩
    case round =>
      obtain ⟨k, hk, rfl, rfl, hbr, HE⟩ := hrel
      by_cases hlt : k < n
      · obtain ⟨x, hx⟩ : ∃ x, L[k]? = some x := ⟨_, List.getElem?_eq_getElem (by rw [HL.out]; exact hlt)⟩
        obtain ⟨y, hy⟩ : ∃ y, M[k]? = some y := ⟨_, List.getElem?_eq_getElem (by rw [HM.out]; exact hlt)⟩
        obtain ⟨b, off, cs, rfl, ⟨rfl, hl1, hl2⟩, _, hck⟩ := (HS.out.below lbR_mono hbr).get hx
        obtain ⟨b', off', cs', rfl, ⟨rfl, hm1, hm2⟩, _, hcj⟩ := (HU.out.below lbR_mono hbr).get hy
        have c0 := hck 0 _ rfl
        have e0 := hcj 0 _ rfl
        have c1 := hck 1 _ rfl
        have e1 := hcj 1 _ rfl
        rw [Nat.add_zero] at c0 e0
        have hq := eq_lb x y
        obtain ⟨nmx, hnmx⟩ : ∃ z, z = mkS x.nm := ⟨_, rfl⟩
        obtain ⟨vlx, hvlx⟩ : ∃ z, z = mkS x.vl := ⟨_, rfl⟩
        obtain ⟨nmy, hnmy⟩ : ∃ z, z = mkS y.nm := ⟨_, rfl⟩
        obtain ⟨vly, hvly⟩ : ∃ z, z = mkS y.vl := ⟨_, rfl⟩
        rw [← hnmx, ← hvlx, ← hnmy, ← hvly] at hq
        rw [← hnmx] at c0
        rw [← hvlx] at c1
        rw [← hnmy] at e0
        rw [← hvly] at e1
        have HQ := Lib.hid hq
        have HX := Lib.hid hx
        have HY := Lib.hid hy
        clear hnmx hvlx hnmy hvly hck hcj hx hy hq
        by_cases he : x = y
        · have HN : Hid (L.take (k + 1) = M.take (k + 1)) := Lib.hid (take_same HE.out HX.out (by rw [he]; exact HY.out))
          go_wp2_with fail
          refine wp_region_quiet_lit (by kernel_rfl) (by kernel_rfl) ?_
          repeat (go_big_quiet_step (fail))
          go_big_quiet_want
          refine quiet_of_run (.bool false) (fun w' => (exec_neq_mix (l := [.string nmx, .string vlx]) (m := [.string nmy, .string vly]) rfl mixLb rfl rfl (row_ok_lb _ _) (row_ok_lb _ _) rfl rfl).trans (by rw [HQ.out, decide_eq_true he]; rfl)) ?_
          go_big_quiet_on
          refine wpQuiet_nil ?_
          rintro _ ⟨nq, rfl⟩
          go_wp2
          go_roundw
          case rel => exact ⟨k + 1, by omega, by go_num, rfl, below_drewN hbr _, HN⟩
          case measure => simp [intOf]; omega
        · have HN : Hid (decide (L = M) = false) := Lib.hid (decide_eq_false (get_ne HX.out HY.out he))
          go_wp2_with fail
          refine wp_region_quiet_lit (by kernel_rfl) (by kernel_rfl) ?_
          repeat (go_big_quiet_step (fail))
          go_big_quiet_want
          refine quiet_of_run (.bool true) (fun w' => (exec_neq_mix (l := [.string nmx, .string vlx]) (m := [.string nmy, .string vly]) rfl mixLb rfl rfl (row_ok_lb _ _) (row_ok_lb _ _) rfl rfl).trans (by rw [HQ.out, decide_eq_false he]; rfl)) ?_
          go_big_quiet_on
          refine wpQuiet_nil ?_
          rintro _ ⟨nq, rfl⟩
          go_wp2
          go_ret
          exact ⟨ret_bool' HN.out.symm, below_drewN hbr _⟩
      · obtain rfl : k = n := by omega
        have HN : Hid (decide (L = M) = true) := Lib.hid (decide_eq_true (by
          have h := HE.out
          rwa [List.take_of_length_le (by rw [HL.out]; exact Nat.le_refl _), List.take_of_length_le (by rw [HM.out]; exact Nat.le_refl _)] at h))
        go_wp2_with fail
        go_ret
        exact ⟨ret_bool' HN.out.symm, hbr⟩
  · have HN : Hid (decide (L = M) = false) := Lib.hid (decide_eq_false (fun h => hno (by rw [← hn, ← ho, h])))
    have hne : ((n : Int) != (o : Int)) = true := by rw [bne_iff_ne]; omega
    clear hn ho
    go_enter Tryz.func13, Tryz.ntmps13
    go_wp2_with fail
    go_ret
    exact ⟨ret_bool' HN.out.symm, Below.refl _ _⟩
set_option maxHeartbeats 4000000 in
set_option maxRecDepth 100000 in
theorem samemt_any (v u : Value) (L M : List Mt) (w : World) (hs : Sp MtR 3 w v L) (ht : Sp MtR 3 w u M) : Calls Tryz.prog 30 #[v, u] w fun e w' => e = .returned (.bool (decide (L = M))) ∧ Below w.heap.size w w' := by
  obtain ⟨n, hn⟩ : ∃ n, L.length = n := ⟨_, rfl⟩
  obtain ⟨o, ho⟩ : ∃ n, M.length = n := ⟨_, rfl⟩
  obtain ⟨ao, c, rfl, hnc, hc⟩ := hs.shapeN hn
  obtain ⟨bo, d, rfl, hod, hd⟩ := ht.shapeN ho
  have HL := Lib.hid hn
  have HM := Lib.hid ho
  have HS := Lib.hid hs
  have HU := Lib.hid ht
  clear hs ht
  by_cases hno : n = o
  · subst hno
    clear hn ho
    go_enter Tryz.func30, Tryz.ntmps30
    go_wp2_with fail
    go_loopw [4, 5, 13] (fun r _ i wr => ∃ k : Nat, k ≤ n ∧ i = .int .i64 k ∧ r = .bool false ∧ Below w.heap.size w wr ∧ Hid (L.take k = M.take k)) (fun _ _ i _ => n - (intOf i).toNat)
    case atStart => exact ⟨0, by omega, rfl, rfl, Below.refl _ _, Lib.hid rfl⟩
    case round =>
      obtain ⟨k, hk, rfl, rfl, hbr, HE⟩ := hrel
      by_cases hlt : k < n
      · obtain ⟨x, hx⟩ : ∃ x, L[k]? = some x := ⟨_, List.getElem?_eq_getElem (by rw [HL.out]; exact hlt)⟩
        obtain ⟨y, hy⟩ : ∃ y, M[k]? = some y := ⟨_, List.getElem?_eq_getElem (by rw [HM.out]; exact hlt)⟩
        obtain ⟨b, off, cs, rfl, ⟨rfl, hl1, hl2, hl3, hl4⟩, _, hck⟩ := (HS.out.below mtR_mono hbr).get hx
        obtain ⟨b', off', cs', rfl, ⟨rfl, hm1, hm2, hm3, hm4⟩, _, hcj⟩ := (HU.out.below mtR_mono hbr).get hy
        have c0 := hck 0 _ rfl
        have e0 := hcj 0 _ rfl
        have c1 := hck 1 _ rfl
        have e1 := hcj 1 _ rfl
        have c2 := hck 2 _ rfl
        have e2 := hcj 2 _ rfl
        rw [Nat.add_zero] at c0 e0
        have hq := eq_mt x y
        obtain ⟨kdx, hkdx⟩ : ∃ z, z = x.kd := ⟨_, rfl⟩
        obtain ⟨nmx, hnmx⟩ : ∃ z, z = mkS x.nm := ⟨_, rfl⟩
        obtain ⟨vlx, hvlx⟩ : ∃ z, z = mkS x.vl := ⟨_, rfl⟩
        obtain ⟨kdy, hkdy⟩ : ∃ z, z = y.kd := ⟨_, rfl⟩
        obtain ⟨nmy, hnmy⟩ : ∃ z, z = mkS y.nm := ⟨_, rfl⟩
        obtain ⟨vly, hvly⟩ : ∃ z, z = mkS y.vl := ⟨_, rfl⟩
        rw [← hkdx, ← hnmx, ← hvlx, ← hkdy, ← hnmy, ← hvly] at hq
        rw [← hkdx] at c0
        rw [← hnmx] at c1
        rw [← hvlx] at c2
        rw [← hkdy] at e0
        rw [← hnmy] at e1
        rw [← hvly] at e2
        have HQ := Lib.hid hq
        have HX := Lib.hid hx
        have HY := Lib.hid hy
        clear hkdx hnmx hvlx hkdy hnmy hvly hck hcj hx hy hq
        by_cases he : x = y
        · have HN : Hid (L.take (k + 1) = M.take (k + 1)) := Lib.hid (take_same HE.out HX.out (by rw [he]; exact HY.out))
          go_wp2_with fail
          refine wp_region_quiet_lit (by kernel_rfl) (by kernel_rfl) ?_
          repeat (go_big_quiet_step (fail))
          go_big_quiet_want
          refine quiet_of_run (.bool false) (fun w' => (exec_neq_mix (l := [.int .i64 kdx, .string nmx, .string vlx]) (m := [.int .i64 kdy, .string nmy, .string vly]) rfl mixMt rfl rfl (row_ok_mt _ _ _) (row_ok_mt _ _ _) rfl rfl).trans (by rw [HQ.out, decide_eq_true he]; rfl)) ?_
          go_big_quiet_on
          refine wpQuiet_nil ?_
          rintro _ ⟨nq, rfl⟩
          go_wp2
          go_roundw
          case rel => exact ⟨k + 1, by omega, by go_num, rfl, below_drewN hbr _, HN⟩
          case measure => simp [intOf]; omega
        · have HN : Hid (decide (L = M) = false) := Lib.hid (decide_eq_false (get_ne HX.out HY.out he))
          go_wp2_with fail
          refine wp_region_quiet_lit (by kernel_rfl) (by kernel_rfl) ?_
          repeat (go_big_quiet_step (fail))
          go_big_quiet_want
          refine quiet_of_run (.bool true) (fun w' => (exec_neq_mix (l := [.int .i64 kdx, .string nmx, .string vlx]) (m := [.int .i64 kdy, .string nmy, .string vly]) rfl mixMt rfl rfl (row_ok_mt _ _ _) (row_ok_mt _ _ _) rfl rfl).trans (by rw [HQ.out, decide_eq_false he]; rfl)) ?_
          go_big_quiet_on
          refine wpQuiet_nil ?_
          rintro _ ⟨nq, rfl⟩
          go_wp2
          go_ret
          exact ⟨ret_bool' HN.out.symm, below_drewN hbr _⟩
      · obtain rfl : k = n := by omega
        have HN : Hid (decide (L = M) = true) := Lib.hid (decide_eq_true (by
          have h := HE.out
          rwa [List.take_of_length_le (by rw [HL.out]; exact Nat.le_refl _), List.take_of_length_le (by rw [HM.out]; exact Nat.le_refl _)] at h))
        go_wp2_with fail
        go_ret
        exact ⟨ret_bool' HN.out.symm, hbr⟩
  · have HN : Hid (decide (L = M) = false) := Lib.hid (decide_eq_false (fun h => hno (by rw [← hn, ← ho, h])))
    have hne : ((n : Int) != (o : Int)) = true := by rw [bne_iff_ne]; omega
    clear hn ho
    go_enter Tryz.func30, Tryz.ntmps30
    go_wp2_with fail
    go_ret
    exact ⟨ret_bool' HN.out.symm, Below.refl _ _⟩
end Go.Proofs.YtlfhcjhbnakamaaGreatDoor.Lab
/-
  What the bound on the bulk of the arguments gives, and arguments opened under it.
-/
namespace Go.Gh
open Go.RowKit Go.ChangeShapes Go.WideShapes Go.ChangeAt Go.Joins Go.Proofs.YtlfhcjhbnakamaaGreatDoor
set_option linter.unusedVariables false

theorem bulk_one {H : Type} (d : DataW H) : 1 ≤ Rows.uptoBulk d := by
  cases d with
  | lit l => cases l <;> simp [Rows.uptoBulk]
  | nil => simp [Rows.uptoBulk]
  | ptr d => simp [Rows.uptoBulk]
  | slice elems spare => simp [Rows.uptoBulk]
  | agg parts => simp [Rows.uptoBulk]
  | iface t d => simp [Rows.uptoBulk]
  | map entries => simp [Rows.uptoBulk]
  | held h => simp [Rows.uptoBulk]
theorem bulk_part {H : Type} {d : DataW H} {l : List (DataW H)} (h : d ∈ l) : Rows.uptoBulk d ≤ Rows.uptoBulkAll l := by
  induction l with
  | nil => cases h
  | cons x r ih =>
    simp only [Rows.uptoBulkAll]
    cases List.mem_cons.1 h with
    | inl e => subst e; omega
    | inr e => have := ih e; omega
theorem bulk_len {H : Type} (l : List (DataW H)) : l.length ≤ Rows.uptoBulkAll l := by
  induction l with
  | nil => simp [Rows.uptoBulkAll]
  | cons x r ih => have := bulk_one x; simp only [Rows.uptoBulkAll, List.length_cons]; omega
theorem bulk_at {H : Type} {l : List (DataW H)} (hk : Rows.uptoSmall H l = true) {d : DataW H} (h : d ∈ l) : Rows.uptoBulk d ≤ 1048576 := by
  have h1 : Rows.uptoBulkAll l ≤ 1048576 := of_decide_eq_true hk
  exact Nat.le_trans (bulk_part h) h1

section
variable {H : Type} {enc : TypeId × Value → H} {P : Program} {W : World} {base b0 : Nat} {r : Reach} {spare : Nat → Bool} {held : Bool} {t e : TypeId} {k : IntKind} {v : Value} {d : DataW H} {ps : List MemPlace}
/-- A slice of integers that came in, as 'Sl', and its reading. -/
theorem sl_ints_b {fuel : Nat} {x : DataW H × List MemPlace} (ht : P.underlying t = some (.slice e)) (he : P.underlying e = some (.int k)) (hc : P.cellsOf e = 1)
    (h : DataW.trod enc P W base spare held fuel t [v] = some x) (hb : Rows.uptoBulk x.1 ≤ 1048576) :
    ∃ (n : Nat) (zs : List Int), Sl W 1 v n (zs.map (Value.int k)) ∧ (∀ z ∈ zs, (Lit.int k z).wf = true) ∧ n ≤ 1048576 := by
  rcases open_ints ht he hc h with ⟨hcs, _⟩ | ⟨a, len, cap, zs, hcs, _, hl, hm, hz, hx, hcell, hwz⟩
  · obtain rfl : v = .slice none 0 0 := by simpa using hcs
    exact ⟨0, [], ⟨none, 0, rfl, Nat.le_refl _, Nat.zero_le _, fun _ => rfl, by simp, fun h => absurd h (Nat.lt_irrefl _)⟩, by simp, by simp⟩
  · obtain rfl : v = .slice (some a) len cap := by simpa using hcs
    have hlz : len ≤ zs.length := by rw [hz]; split <;> omega
    refine ⟨len, zs.take len, ⟨some a, cap, rfl, hl, hm, fun h => by simp at h, by simp; omega, fun hn => ?_⟩, fun z hz' => hwz z (List.mem_of_mem_take hz'), ?_⟩
    · have h0 := hcell 0 (by omega)
      obtain ⟨b, off, spot⟩ := a
      have hs := World.cell?_spot h0
      simp [Addr.add] at hs
      subst hs
      refine ⟨b, off, rfl, fun i u hu => ?_⟩
      have hi : i < len := by
        rcases Nat.lt_or_ge i len with h' | h'
        · exact h'
        · rw [List.getElem?_eq_none (by simp; omega)] at hu; simp at hu
      have := hcell i (by omega)
      rw [addr_add] at this
      rw [this]
      have hi' : i < zs.length := by omega
      simp [List.getElem?_map, hi, List.getElem?_eq_getElem hi'] at hu
      rw [← hu, List.getD_eq_getElem?_getD, List.getElem?_eq_getElem hi']
      rfl
    · rw [hx] at hb
      simp only [Rows.uptoBulk] at hb
      have h1 := bulk_len (lits (H := H) k (zs.take len))
      simp [lits] at h1 hb
      omega
theorem isIntB_of (ht : P.underlying t = some (.int k)) (hv : Value.okWide P W r b0 t v) (hd : DataW.Trod enc P W base spare held t v d ps) (hb : Rows.uptoBulk d ≤ 1048576) : IsInt k W v := by
  obtain ⟨n, h1, _, _, h2⟩ := open_int ht hv hd
  exact ⟨n, h1, h2⟩
end
end Go.Gh
/-
  Slices of whatever elements that came in, under the bound on the bulk.
-/
namespace Go.Gh
open Go.RowKit Go.ChangeShapes Go.WideShapes Go.ChangeAt Go.Joins Go.Deep Go.Proofs.YtlfhcjhbnakamaaGreatDoor
set_option linter.unusedVariables false
section
variable {α : Type} {H : Type} {enc : TypeId × Value → H} {P : Program} {W : World} {base : Nat} {spare : Nat → Bool} {held : Bool} {R : World → α → List Value → Prop}
theorem sp_ofB {t e : TypeId} {k fuel M : Nat} {v : Value} {x : DataW H × List MemPlace} (inh : Inhabited α) (ht : P.underlying t = some (.slice e)) (hk : P.cellsOf e = k) (hpos : 0 < k)
    (hel : ∀ fuel cs x, DataW.trod enc P W base spare held fuel e cs = some x → cs.length = k → Rows.uptoBulk x.1 ≤ M → ∃ a, R W a cs)
    (h : DataW.trod enc P W base spare held fuel t [v] = some x) (hbk : Rows.uptoBulk x.1 ≤ M) : ∃ L : List α, Sp R k W v L ∧ L.length ≤ M := by
  rcases open_slice ht h with ⟨hcs, _⟩ | ⟨a, len, cap, m, n, D, Pl, hcs, hb, hl, hm, hmm, hx, hi'⟩
  · obtain rfl : v = .slice none 0 0 := by simpa using hcs
    exact ⟨[], Sp.nil, Nat.zero_le _⟩
  · obtain rfl : v = .slice (some a) len cap := by simpa using hcs
    have hlm : len ≤ m := by rw [hmm]; split <;> omega
    rw [hx] at hbk
    simp only [Rows.uptoBulk] at hbk
    have hlen : len ≤ M := by
      have := bulk_len ((List.range len).map D)
      rw [List.length_map, List.length_range] at this
      omega
    have each : ∀ i, i < len → ∃ p : α × List Value, p.2.length = k ∧ R W p.1 p.2 ∧ ∀ j u, p.2[j]? = some u → W.cell? (a.add (i * k + j)) = some u := by
      intro i hlt
      obtain ⟨cs', hc, ht'⟩ := hi' i (by omega)
      rw [hk] at hc
      obtain ⟨_, hcl, hat⟩ := World.cells?_some hc
      have hbi : Rows.uptoBulk (D i) ≤ M := by
        have h1 : D i ∈ (List.range len).map D := List.mem_map.2 ⟨i, by simpa using hlt, rfl⟩
        have := bulk_part h1
        omega
      obtain ⟨y, hy⟩ := hel _ _ _ ht' hcl hbi
      refine ⟨(y, cs'), hcl, hy, fun j u hu => ?_⟩
      have hj : j < k := by
        have h9 : j < cs'.length := (List.getElem?_eq_some_iff.1 hu).1
        have h10 : cs'.length = k := hcl
        omega
      have h2 := hat j hj
      rw [add_add] at h2
      rw [h2]
      exact hu
    haveI : Inhabited (α × List Value) := ⟨(inh.default, [])⟩
    obtain ⟨Q, hQ⟩ := choose_lt each
    have hL : ((List.range len).map Q).length = len := by simp
    have hPK : PK k ((List.range len).map Q) := by
      intro p hp
      obtain ⟨i, hi, rfl⟩ := List.mem_map.1 hp
      exact (hQ i (by simpa using hi)).1
    refine ⟨((List.range len).map Q).map (·.1), ⟨(List.range len).map Q, rfl, hPK, ?_, some a, cap, ?_, ?_, hm, fun h => by simp at h, ?_, fun hn => ?_⟩, ?_⟩
    · intro p hp
      obtain ⟨i, hi, rfl⟩ := List.mem_map.1 hp
      exact (hQ i (by simpa using hi)).2.1
    · rw [List.length_map, hL]
    · rw [List.length_map, hL]; exact hl
    · rw [pc_len hPK, List.length_map, List.length_map, List.length_map]
    · rw [List.length_map, hL] at hn
      obtain ⟨u0, hu0⟩ : ∃ u, (Q 0).2[0]? = some u := ⟨_, List.getElem?_eq_getElem (by rw [(hQ 0 hn).1]; exact hpos)⟩
      have h0 := (hQ 0 hn).2.2 0 u0 hu0
      obtain ⟨b, off, spot⟩ := a
      have hs := World.cell?_spot h0
      simp [Addr.add] at hs
      subst hs
      refine ⟨b, off, rfl, fun i u hu => ?_⟩
      have hidx : i < len * k := by
        rcases Nat.lt_or_ge i (len * k) with h' | h'
        · exact h'
        · rw [List.getElem?_eq_none (by rw [pc_len hPK, hL]; exact h')] at hu; simp at hu
      have hq : i / k < len := Nat.div_lt_of_lt_mul (by rw [Nat.mul_comm]; exact hidx)
      have hr : i % k < k := Nat.mod_lt _ hpos
      have hdm : i / k * k + i % k = i := by rw [Nat.mul_comm]; exact Nat.div_add_mod i k
      have hp : ((List.range len).map Q)[i / k]? = some (Q (i / k)) := by simp [hq]
      rw [← hdm, pc_get hPK hp hr] at hu
      have := (hQ (i / k) hq).2.2 (i % k) u hu
      rw [addr_add, hdm] at this
      exact this
    · rw [List.length_map, hL]; exact hlen
/-- The bulk of a struct's part. -/
theorem bulk_field {xs : List (DataW H × List MemPlace)} {y : DataW H × List MemPlace} {i M : Nat} (h : Rows.uptoBulk (DataW.agg (xs.map (·.1))) ≤ M) (hy : xs[i]? = some y) : Rows.uptoBulk y.1 ≤ M := by
  simp only [Rows.uptoBulk] at h
  have h1 : y.1 ∈ xs.map (·.1) := List.mem_map.2 ⟨y, List.mem_of_getElem? hy, rfl⟩
  have := bulk_part h1
  omega
end
end Go.Gh
/-
  Labels, matches and texts that came in, under the bound on the bulk; the table of signs as the row's list lays it.
-/
namespace Go.Proofs.YtlfhcjhbnakamaaGreatDoor.Lab
open Go.RowKit Go.Gh Go.WideShapes Go.ChangeShapes Go.ChangeAt Go.Deep Go.Joins
set_option linter.unusedVariables false
set_option maxRecDepth 100000
def IsLbs (w : World) (v : Value) : Prop := ∃ L : List Lb, Sp LbR 2 w v L
def IsMts (w : World) (v : Value) : Prop := ∃ L : List Mt, Sp MtR 3 w v L
def IsTx (v : Value) : Prop := ∃ l : By, v = .string (mkS l) ∧ l.length ≤ 1048576
theorem gSig : Tryz.prog.globalNamed "gaugehouse/label.signs" = some 0 := by kernel_rfl
theorem gSigType : (Tryz.prog.globals[0]?).map (·.type) = some 94 := by kernel_rfl
theorem cellsSig : Tryz.prog.cellsOf 94 = 5 := by kernel_rfl
theorem cellsStr : Tryz.prog.cellsOf 9 = 1 := by kernel_rfl
theorem cellsInt : Tryz.prog.cellsOf 3 = 1 := by kernel_rfl
theorem cellsLb : Tryz.prog.cellsOf 72 = 2 := by kernel_rfl
theorem cellsMt : Tryz.prog.cellsOf 70 = 3 := by kernel_rfl
section
variable {H : Type} {enc : TypeId × Value → H} {W : World} {base b0 : Nat} {r : Reach} {spare : Nat → Bool} {held : Bool} {v : Value} {d : DataW H} {ps : List MemPlace}
theorem str_cell {fuel : Nat} {c : Value} {x : DataW H × List MemPlace} {l : By} (h : DataW.trod enc Tryz.prog W base spare held fuel 9 [c] = some x) (hx : x.1 = .lit (.string l)) : c = .string (mkS l) := by
  obtain ⟨s, e, rfl, _⟩ := DataW.trod_string Tryz.underlying9 h
  simp only [DataW.lit.injEq, Lit.string.injEq] at hx
  have e' : c = .string s := by simpa using e
  rw [e', of_mkS s, hx]
theorem stab_of_laid {W : World} {rest : List (String × DataW Unit)} (h : laidMet Tryz.prog (("gaugehouse/label.signs", Rows.laid_gaugehouse_label_signs) :: rest) W) : STab W := by
  obtain ⟨ps, ⟨g, t, cs, fuel, p, q, hg, ht, hvar, hd, _, _⟩, _⟩ := h
  obtain rfl := Option.some.inj (gSig.symm.trans hg)
  obtain rfl := Option.some.inj (gSigType.symm.trans ht)
  obtain ⟨xs, m, rfl, hx, hlen, hn, hel⟩ := DataW.trod_array Tryz.underlying94 hd
  obtain ⟨l⟩ := cs
  rw [cellsSig] at hlen
  rw [cellsStr] at hel
  simp only [Prod.mk.injEq] at hx
  have hx1 := hx.1
  simp only [Rows.laid_gaugehouse_label_signs, DataW.agg.injEq] at hx1
  match xs, hn, hx1 with
  | [x0, x1, x2, x3, x4], _, hx1 =>
    simp only [List.map_cons, List.map_nil, List.cons.injEq, and_true] at hx1
    obtain ⟨e0, e1, e2, e3, e4⟩ := hx1
    match l, hlen with
    | [c0, c1, c2, c3, c4], _ =>
      have r0 := str_cell (hel 0 (by decide)) e0.symm
      have r1 := str_cell (hel 1 (by decide)) e1.symm
      have r2 := str_cell (hel 2 (by decide)) e2.symm
      have r3 := str_cell (hel 3 (by decide)) e3.symm
      have r4 := str_cell (hel 4 (by decide)) e4.symm
      subst r0 r1 r2 r3 r4
      intro k hk
      have c := World.var?_cell hg hvar k
      have : k = 0 ∨ k = 1 ∨ k = 2 ∨ k = 3 ∨ k = 4 := by omega
      rcases this with rfl | rfl | rfl | rfl | rfl <;> exact c
theorem str_len {fuel : Nat} {c : Value} {x : DataW H × List MemPlace} (h : DataW.trod enc Tryz.prog W base spare held fuel 9 [c] = some x) (hb : Rows.uptoBulk x.1 ≤ 1048576) : ∃ l : By, c = .string (mkS l) ∧ l.length ≤ 1048576 := by
  obtain ⟨s, e, rfl, _⟩ := DataW.trod_string Tryz.underlying9 h
  simp only [Rows.uptoBulk] at hb
  exact ⟨s.data.toList, by rw [← of_mkS]; simpa using e, by omega⟩
theorem trod_lbB {fuel : Nat} {c0 c1 : Value} {x : DataW H × List MemPlace} (h : DataW.trod enc Tryz.prog W base spare held fuel 72 [c0, c1] = some x) (hb : Rows.uptoBulk x.1 ≤ 1048576) : ∃ y : Lb, LbR W y [c0, c1] := by
  obtain ⟨ys, n2, _, rfl, _, hyl, hfy⟩ := DataW.trod_struct Tryz.underlying72 h
  have hys : ys.length = 2 := hyl
  have g0 : DataW.trod enc Tryz.prog W base spare held n2 9 (([c0, c1].drop 0).take (Tryz.prog.cellsOf 9)) = ys[0]? := hfy 0 _ rfl
  have g1 : DataW.trod enc Tryz.prog W base spare held n2 9 (([c0, c1].drop 1).take (Tryz.prog.cellsOf 9)) = ys[1]? := hfy 1 _ rfl
  rw [cellsStr] at g0 g1
  simp only [List.drop, List.take] at g0 g1
  rw [List.getElem?_eq_getElem (by rw [hys]; decide)] at g0 g1
  obtain ⟨l0, rfl, h0⟩ := str_len g0 (bulk_field hb (List.getElem?_eq_getElem (l := ys) (i := 0) (by rw [hys]; decide)))
  obtain ⟨l1, rfl, h1⟩ := str_len g1 (bulk_field hb (List.getElem?_eq_getElem (l := ys) (i := 1) (by rw [hys]; decide)))
  exact ⟨⟨l0, l1⟩, rfl, by show l0.length ≤ _; omega, by show l1.length ≤ _; omega⟩
theorem trod_mtB {fuel : Nat} {c0 c1 c2 : Value} {x : DataW H × List MemPlace} (h : DataW.trod enc Tryz.prog W base spare held fuel 70 [c0, c1, c2] = some x) (hb : Rows.uptoBulk x.1 ≤ 1048576) : ∃ y : Mt, MtR W y [c0, c1, c2] := by
  obtain ⟨ys, n2, _, rfl, _, hyl, hfy⟩ := DataW.trod_struct Tryz.underlying70 h
  have hys : ys.length = 3 := hyl
  have g0 : DataW.trod enc Tryz.prog W base spare held n2 3 (([c0, c1, c2].drop 0).take (Tryz.prog.cellsOf 3)) = ys[0]? := hfy 0 _ rfl
  have g1 : DataW.trod enc Tryz.prog W base spare held n2 9 (([c0, c1, c2].drop 1).take (Tryz.prog.cellsOf 9)) = ys[1]? := hfy 1 _ rfl
  have g2 : DataW.trod enc Tryz.prog W base spare held n2 9 (([c0, c1, c2].drop 2).take (Tryz.prog.cellsOf 9)) = ys[2]? := hfy 2 _ rfl
  rw [cellsInt] at g0
  rw [cellsStr] at g1 g2
  simp only [List.drop, List.take] at g0 g1 g2
  rw [List.getElem?_eq_getElem (by rw [hys]; decide)] at g0 g1 g2
  obtain ⟨z, e0, _, w0⟩ := DataW.trod_int Tryz.underlying3 g0
  have e0' : c0 = .int .i64 z := by simpa using e0
  obtain ⟨l1, rfl, h1⟩ := str_len g1 (bulk_field hb (List.getElem?_eq_getElem (l := ys) (i := 1) (by rw [hys]; decide)))
  obtain ⟨l2, rfl, h2⟩ := str_len g2 (bulk_field hb (List.getElem?_eq_getElem (l := ys) (i := 2) (by rw [hys]; decide)))
  have hw := wf_i64 w0
  exact ⟨⟨z, l1, l2⟩, by rw [e0'], by show l1.length ≤ _; omega, by show l2.length ≤ _; omega, hw.1, hw.2⟩
theorem isLbsB_of (hv : Value.okWide Tryz.prog W r b0 22 v) (hd : DataW.Trod enc Tryz.prog W base spare held 22 v d ps) (hb : Rows.uptoBulk d ≤ 1048576) : IsLbs W v := by
  obtain ⟨a0, len, cap, rfl⟩ := okWide_slice Tryz.underlying22 hv
  obtain ⟨fuel, hf⟩ := hd
  have hf' : DataW.trod enc Tryz.prog W base spare held fuel 22 [.slice a0 len cap] = some (d, ps) := by simpa [Value.cells] using hf
  obtain ⟨L, hL, _⟩ := sp_ofB (R := LbR) (M := 1048576) ⟨⟨[], []⟩⟩ Tryz.underlying22 cellsLb (by decide) (fun fuel cs x h1 h2 h3 => by
    match cs, h2 with
    | [c0, c1], _ => exact trod_lbB h1 h3) hf' hb
  exact ⟨L, hL⟩
theorem isMtsB_of (hv : Value.okWide Tryz.prog W r b0 34 v) (hd : DataW.Trod enc Tryz.prog W base spare held 34 v d ps) (hb : Rows.uptoBulk d ≤ 1048576) : IsMts W v := by
  obtain ⟨a0, len, cap, rfl⟩ := okWide_slice Tryz.underlying34 hv
  obtain ⟨fuel, hf⟩ := hd
  have hf' : DataW.trod enc Tryz.prog W base spare held fuel 34 [.slice a0 len cap] = some (d, ps) := by simpa [Value.cells] using hf
  obtain ⟨L, hL, _⟩ := sp_ofB (R := MtR) (M := 1048576) ⟨⟨0, [], []⟩⟩ Tryz.underlying34 cellsMt (by decide) (fun fuel cs x h1 h2 h3 => by
    match cs, h2 with
    | [c0, c1, c2], _ => exact trod_mtB h1 h3) hf' hb
  exact ⟨L, hL⟩
theorem isTxB_of (hv : Value.okWide Tryz.prog W r b0 9 v) (hd : DataW.Trod enc Tryz.prog W base spare held 9 v d ps) (hb : Rows.uptoBulk d ≤ 1048576) : IsTx v := by
  obtain ⟨s, rfl⟩ := okWide_string Tryz.underlying9 hv
  obtain ⟨fuel, hf⟩ := hd
  have hf' : DataW.trod enc Tryz.prog W base spare held fuel 9 [.string s] = some (d, ps) := by simpa [Value.cells] using hf
  obtain ⟨l, e, h⟩ := str_len hf' hb
  exact ⟨l, e, h⟩
end
end Go.Proofs.YtlfhcjhbnakamaaGreatDoor.Lab
/-
  'gaugehouselaw.LabelTells': the walk of the law.
-/
namespace Go.Proofs.YtlfhcjhbnakamaaGreatDoor.LabelTells
open Go.RowKit Go.Gh Go.Proofs.YtlfhcjhbnakamaaGreatDoor.Lab
set_option linter.unusedVariables false
theorem dec_self (L : List Lb) : decide (L = L) = true := decide_eq_true rfl
set_option maxHeartbeats 8000000 in
set_option maxRecDepth 100000 in
theorem walk (v0 v1 : Value) (w : World) (h0 : IsLbs w v0) (h1 : IsTx v1) (hT : STab w) : Calls Tryz.prog 3 #[v0, v1] w fun e w' => e = .returned (.bool true) ∧ Below w.heap.size w w' := by
  obtain ⟨L, hs⟩ := h0
  obtain ⟨l, rfl, hl⟩ := h1
  obtain ⟨ao, c, rfl, -, -⟩ := hs.shape
  obtain ⟨n, hn⟩ : ∃ n, L.length = n := ⟨_, rfl⟩
  rw [hn] at hs ⊢
  have HS := Lib.hid hs
  have HT := Lib.hid hT
  obtain ⟨F, hF⟩ : ∃ F, labelF L = F := ⟨_, rfl⟩
  have HF := Lib.hid hF
  have HTX := Lib.hid (text2_any _ L w hs hT)
  have HLF := Lib.hid (fun W (hb : Below w.heap.size w W) => lbfault_any _ L W (hs.below lbR_mono hb))
  have HCK := Lib.hid (fun W (hb : Below w.heap.size w W) => lbcheck_any _ L W (hs.below lbR_mono hb))
  have HLT := Lib.hid (fun W (hb : Below w.heap.size w W) (h : F = 0) => lbtext_any _ L W (hs.below lbR_mono hb) (hF.trans h))
  have HRD := Lib.hid (fun W (hb : Below w.heap.size w W) => lbread_any l W hl (hT.below hb))
  have HLO := Lib.hid (fun W => lbof_any l W hl)
  rw [hF] at HTX HLF HCK
  generalize mkS l = S at *
  obtain ⟨X, hX⟩ : ∃ X, lbF l = X := ⟨_, rfl⟩
  rw [hX] at HRD HLO
  obtain ⟨T, hT2⟩ : ∃ X, mkS (textM (asM L)) = X := ⟨_, rfl⟩
  rw [hT2] at HLT
  obtain ⟨T0, hT0⟩ : ∃ X, mkS (if F = 0 then textM (asM L) else []) = X := ⟨_, rfl⟩
  have HTX2 : Hid (Calls Tryz.prog 7 #[.slice ao n c] w fun e w' => e = .returned (.tuple #[.string T0, .int .i64 F]) ∧ Below w.heap.size w w') := Lib.hid (by
    have h := HTX.out
    unfold txP at h
    rw [hT0] at h
    exact h)
  have hff : (F != F) = false := by simp
  have htt : (T.toList == T.toList) = true := by simp
  -- the rest, behind the tests
  clear hn hs hT hF hl hX HTX
  have HT02 := Lib.hid hT0
  have HT22 := Lib.hid hT2
  clear hT0 hT2
  go_enter Tryz.func3, Tryz.ntmps3
  go_wp2_with (go_at_call 7; refine HTX2.out.mono ?_; rintro e w1 ⟨rfl, hb1⟩; have HB1 := Lib.hid hb1; clear hb1)
  refine (HRD.out w1 HB1.out).mono ?_
  intro e w2 hrd
  obtain ⟨hb2, hrd⟩ := hrd
  have HB2 := Lib.hid (HB1.out.trans (hb2.mono HB1.out.size))
  have HB12 := Lib.hid hb2
  obtain ⟨mo, mn, mc, fe, rfl, HM⟩ : ∃ mo mn mc fe, e = .returned (.tuple #[.slice mo mn mc, .int .i64 fe]) ∧ Hid ((X = none ∧ mn = 0 ∧ fe = 4) ∨ ∃ ls, X = some ls ∧ fe = 0 ∧ Sp LbR 2 w2 (.slice mo mn mc) ls) := by
    cases X with
    | none => exact ⟨none, 0, 0, 4, hrd, Lib.hid (Or.inl ⟨rfl, rfl, rfl⟩)⟩
    | some ls =>
      obtain ⟨v, rfl, ho⟩ := hrd
      obtain ⟨ao2, c2, rfl, -, -⟩ := ho.sp.shape
      exact ⟨ao2, _, c2, 0, rfl, Lib.hid (Or.inr ⟨ls, rfl, rfl, ho.sp⟩)⟩
  clear hb2 hrd
  go_upto_region 4 with (go_at_call 9; refine (HLF.out w2 HB2.out).mono ?_; rintro e w3 ⟨rfl, hb3⟩; have HB3 := Lib.hid (HB2.out.trans (hb3.mono HB2.out.size)); have HB23 := Lib.hid hb3; clear hb3)
  go_cut [50] (fun t wx => t = .bool false ∧ Hid (Below w2.heap.size w2 wx))
  case first =>
    by_cases hz : F = 0
    · subst hz
      have e0 : T0 = T := by rw [← HT02.out, ← HT22.out, if_pos rfl]
      subst e0
      have HLT0 := Lib.hid (fun W hb => HLT.out W hb rfl)
      clear HLT
      go_wp2_with (first
        | (go_at_call 10; refine (HCK.out w3 HB3.out).mono ?_; rintro e w4 ⟨rfl, hb4⟩; have HB4 := Lib.hid (HB3.out.trans (hb4.mono HB3.out.size)); have HB34 := Lib.hid hb4; clear hb4)
        | (go_at_call 11; refine (HLT0.out w4 HB4.out).mono ?_; rintro e w5 ⟨rfl, hb5⟩; have HB45 := Lib.hid hb5; clear hb5))
      go_meet
      case rel => exact ⟨by rfl, Lib.hid ((HB23.out.trans (HB34.out.mono HB23.out.size)).trans (HB45.out.mono (Nat.le_trans HB23.out.size HB34.out.size)))⟩
    · have e0 : T0 = ⟨#[]⟩ := by rw [← HT02.out, if_neg hz]; rfl
      subst e0
      have t1 : (F != 0) = true := by rw [bne_iff_ne]; exact hz
      have t2 : (F == 0) = false := beq_eq_false_iff_ne.2 hz
      clear hz
      go_wp2_with (first
        | (go_at_call 10; refine (HCK.out w3 HB3.out).mono ?_; rintro e w4 ⟨rfl, hb4⟩; have HB34 := Lib.hid hb4; clear hb4))
      go_meet
      case rel => exact ⟨by rfl, Lib.hid (HB23.out.trans (HB34.out.mono HB23.out.size))⟩
  case rest =>
    obtain ⟨rfl, HBC⟩ := hcut
    have HBW := Lib.hid (HB2.out.trans (HBC.out.mono HB2.out.size))
    have HLC := Lib.hid (HLO.out wc)
    rcases HM.out with ⟨rfl, rfl, rfl⟩ | ⟨ls, rfl, rfl, hsp⟩
    · have HLC2 : Hid (Calls Tryz.prog 12 #[.string S] wc fun e w' => Below wc.heap.size wc w' ∧ ∃ ao n c, e = .returned (.tuple #[.slice ao n c, .bool false])) := Lib.hid HLC.out
      go_wp2_with (go_at_call 12; refine HLC2.out.mono ?_; rintro e w6 ⟨hb6, bo, bn, bc, rfl⟩; have HB6 := Lib.hid hb6; clear hb6)
      go_ret
      exact ⟨by rfl, HBW.out.trans (HB6.out.mono HBW.out.size)⟩
    · have HLC2 : Hid (Calls Tryz.prog 12 #[.string S] wc fun e w' => Below wc.heap.size wc w' ∧ ∃ ao n c, e = .returned (.tuple #[.slice ao n c, .bool true]) ∧ Ow LbR 2 72 wc.heap.size w' (.slice ao n c) ls) := Lib.hid HLC.out
      have HSP := Lib.hid hsp
      clear hsp
      go_wp2_with (first
        | (go_at_call 12; refine HLC2.out.mono ?_; rintro e w6 ⟨hb6, bo, bn, bc, rfl, ho6⟩; have HB6 := Lib.hid hb6; have HO6 := Lib.hid ho6; clear hb6 ho6)
        | (go_at_call 13; refine (samelb_any _ _ ls ls w6 (HSP.out.below lbR_mono (HBC.out.trans (HB6.out.mono HBC.out.size))) HO6.out.sp).mono ?_; rw [dec_self]; rintro e w7 ⟨rfl, hb7⟩; have HB7 := Lib.hid hb7; clear hb7))
      go_ret
      exact ⟨by rfl, (HBW.out.trans (HB6.out.mono HBW.out.size)).trans (HB7.out.mono (Nat.le_trans HBW.out.size HB6.out.size))⟩
end Go.Proofs.YtlfhcjhbnakamaaGreatDoor.LabelTells
