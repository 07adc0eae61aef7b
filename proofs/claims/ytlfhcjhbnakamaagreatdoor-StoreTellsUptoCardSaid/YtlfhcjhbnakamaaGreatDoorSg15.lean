/-
  Two structs whose fields are integers and strings, held against each other.
-/
import Derived.Test.YtlfhcjhbnakamaaGreatDoorSg7
import Derived.Test.YtlfhcjhbnakamaaGreatDoorSg8
import Derived.Test.YtlfhcjhbnakamaaGreatDoorSg14
import Derived.Laws.StructEq
import Derived.Deep.QuietTactic
import Derived.BigQuiet
import Derived.IntWalk
import Derived.Test.YtlfhcjhbnakamaaGreatDoorCards
import Derived.Test.YtlfhcjhbnakamaaGreatDoorTie
import Derived.ProofKit
import Derived.OpenShut
import Derived.Deep.DeepHandedRow
import Derived.Lib.LaidTab
namespace Go.Gh
open Go.RowKit
set_option linter.unusedVariables false
def mixTy : Option TypeDesc → Bool
  | some (.int _) => true
  | some .string => true
  | _ => false
/-- A struct type of k fields of one cell each, integers or strings. -/
def mixed (P : Program) (t : TypeId) (k : Nat) : Bool :=
  (match P.underlying t with
  | some (.struct fs) => fs.size == k && (List.range k).all fun j => match fs[j]? with
    | some f => f.name != "_" && f.offset == j && mixTy (P.underlying f.type)
    | none => false
  | _ => false) && !P.stoodInHeld t && !P.eqGuardType P.depth t
/-- A cell is of its field's kind. -/
def cellOk (d : Option TypeDesc) (v : Value) : Prop := match d, v with
  | some (.int k), .int k' _ => k = k'
  | some .string, .string _ => True
  | _, _ => False
def eqCell : Value → Value → Bool
  | .int _ a, .int _ b => a == b
  | .string a, .string b => a.toList == b.toList
  | _, _ => false
def eqCells : List Value → List Value → Bool
  | [], [] => true
  | a :: l, b :: m => eqCell a b && eqCells l m
  | _, _ => false
theorem mixed_of {P : Program} {t : TypeId} {k : Nat} (h : mixed P t k = true) : ∃ fs : Array Field, P.underlying t = some (.struct fs) ∧ fs.size = k ∧ P.stoodInHeld t = false ∧ P.eqGuardType P.depth t = false ∧
    ∀ (j : Nat) (f : Field), fs[j]? = some f → f.name ≠ "_" ∧ f.offset = j ∧ mixTy (P.underlying f.type) = true := by
  unfold mixed at h
  rw [Bool.and_eq_true, Bool.and_eq_true] at h
  obtain ⟨⟨h1, h2⟩, h3⟩ := h
  split at h1
  · rename_i fs hu
    rw [Bool.and_eq_true] at h1
    refine ⟨fs, hu, by simpa using h1.1, by simpa using h2, by simpa using h3, fun j f hj => ?_⟩
    have hk : fs.size = k := by simpa using h1.1
    have hjl : j < k := by rw [← hk]; exact (Array.getElem?_eq_some_iff.1 hj).1
    have := List.all_eq_true.1 h1.2 j (List.mem_range.2 hjl)
    rw [hj] at this
    simp only [Bool.and_eq_true] at this
    exact ⟨by simpa using this.1.1, by simpa using this.1.2, this.2⟩
  · simp at h1
theorem run_part_mix {P : Program} {w : World} {t : TypeId} (hu : mixTy (P.underlying t) = true) {xs : Array Value} {off : Nat} {v : Value} (hx : xs[off]? = some v) : (part t xs off).run P w = .ok v w := by
  cases h : P.underlying t with
  | none => rw [h] at hu; simp [mixTy] at hu
  | some d =>
    rw [h] at hu
    cases d <;> simp [mixTy] at hu <;> simp [part, isAgg, run_underlying h, hx]
theorem run_equal_cell {P : Program} {w : World} {t : TypeId} {d : Nat} {a b : Value} (ha : cellOk (P.underlying t) a) (hb : cellOk (P.underlying t) b) : (Op.equalIn (d + 1) t a b).run P w = .ok (eqCell a b) w := by
  cases h : P.underlying t with
  | none => rw [h] at ha; cases a <;> simp [cellOk] at ha
  | some D =>
    rw [h] at ha hb
    cases D <;> cases a <;> simp [cellOk] at ha <;> cases b <;> simp [cellOk] at hb
    · subst ha
      subst hb
      exact run_equalIn_int w d t _ _ _ _ h
    · exact run_equalIn_string w d t _ _ h
theorem run_eqFields_mix {P : Program} {w : World} {d : Nat} {l m : List Value} : ∀ (fs : List Field) (j : Nat), (∀ (i : Nat) (f : Field), fs[i]? = some f → f.name ≠ "_" ∧ f.offset = j + i ∧ mixTy (P.underlying f.type) = true) →
    (∀ (i : Nat) (f : Field) (v : Value), fs[i]? = some f → l[j + i]? = some v → cellOk (P.underlying f.type) v) → (∀ (i : Nat) (f : Field) (v : Value), fs[i]? = some f → m[j + i]? = some v → cellOk (P.underlying f.type) v) →
    l.length = j + fs.length → m.length = j + fs.length → (Op.eqFields (d + 1) l.toArray m.toArray fs).run P w = .ok (eqCells (l.drop j) (m.drop j)) w
  | [], j, h, _, _, hl, hm => by
    simp only [List.length_nil, Nat.add_zero] at hl hm
    rw [List.drop_of_length_le (by omega), List.drop_of_length_le (by omega)]
    simp [Op.eqFields, eqCells]
  | f :: fs, j, h, ca, cb, hl, hm => by
    obtain ⟨hn, ho, hu⟩ := h 0 f rfl
    rw [Nat.add_zero] at ho
    rw [List.length_cons] at hl hm
    have jl : j < l.length := by omega
    have jm : j < m.length := by omega
    have p1 : (part f.type l.toArray f.offset).run P w = .ok l[j] w := run_part_mix hu (by rw [ho]; simp [jl])
    have p2 : (part f.type m.toArray f.offset).run P w = .ok m[j] w := run_part_mix hu (by rw [ho]; simp [jm])
    have k1 := ca 0 f l[j] rfl (by rw [Nat.add_zero]; exact List.getElem?_eq_getElem jl)
    have k2 := cb 0 f m[j] rfl (by rw [Nat.add_zero]; exact List.getElem?_eq_getElem jm)
    have sh : ∀ i, j + 1 + i = j + (i + 1) := fun i => by omega
    have ih := run_eqFields_mix (P := P) (w := w) (d := d) (l := l) (m := m) fs (j + 1) (fun i g hg => by have := h (i + 1) g hg; rw [sh]; exact this) (fun i g v hg hv => ca (i + 1) g v hg (by rw [sh] at hv; exact hv)) (fun i g v hg hv => cb (i + 1) g v hg (by rw [sh] at hv; exact hv)) (by omega) (by omega)
    simp only [Op.eqFields, hn, ne_eq, not_false_eq_true, if_true, Sem.run_bind, p1, p2, Result.andThen_ok, run_equal_cell k1 k2]
    rw [List.drop_eq_getElem_cons jl, List.drop_eq_getElem_cons jm, eqCells]
    cases eqCell l[j] m[j] with
    | true => simpa using ih
    | false => simp
def fieldDesc (P : Program) (t : TypeId) (i : Nat) : Option TypeDesc := match P.underlying t with
  | some (.struct fs) => (fs[i]?).bind fun f => P.underlying f.type
  | _ => none
theorem fieldDesc_at {P : Program} {t : TypeId} {fs : Array Field} {i : Nat} {f : Field} (hu : P.underlying t = some (.struct fs)) (hf : fs[i]? = some f) : fieldDesc P t i = P.underlying f.type := by
  unfold fieldDesc
  rw [hu]
  simp only [hf, Option.bind_some]
/-- The cells are of the fields' kinds. -/
def rowOk (P : Program) (t : TypeId) (l : List Value) : Prop := ∀ (i : Nat) (v : Value), l[i]? = some v → cellOk (fieldDesc P t i) v
theorem run_equal_mix {P : Program} {w : World} {t : TypeId} {k : Nat} (ht : mixed P t k = true) {l m : List Value} (hl : l.length = k) (hm : m.length = k) (hlo : rowOk P t l) (hmo : rowOk P t m) :
    (Op.equalIn 10000 t (.agg l.toArray) (.agg m.toArray)).run P w = .ok (eqCells l m) w := by
  obtain ⟨fs, hu, hk, hs, _, hf⟩ := mixed_of ht
  have hfo : P.fieldsOf t = fs := by unfold Program.fieldsOf; rw [hu]
  rw [show (10000 : Nat) = 9999 + 1 from rfl, run_equalIn_struct w 9999 t _ _ (by rw [hfo]; exact hu) hs, hfo]
  have := run_eqFields_mix (P := P) (w := w) (d := 9998) (l := l) (m := m) fs.toList 0 (fun i f h => by rw [Nat.zero_add]; exact hf i f (by simpa using h)) (fun i f v h hv => by rw [← fieldDesc_at hu (by simpa using h)]; exact hlo i v (by rw [Nat.zero_add] at hv; exact hv)) (fun i f v h hv => by rw [← fieldDesc_at hu (by simpa using h)]; exact hmo i v (by rw [Nat.zero_add] at hv; exact hv)) (by simp; omega) (by simp; omega)
  simpa using this
theorem exec_neq_mix {P : Program} {ρ : Operand → Value} {o : Oper} {w : World} {t t' : TypeId} {x y : Operand} {k : Nat} (ho : o.op = .binOp .neq t x y t') (ht : mixed P t k = true) {l m : List Value} (hl : l.length = k) (hm : m.length = k) (hlo : rowOk P t l) (hmo : rowOk P t m)
    (hx : ρ x = .agg l.toArray) (hy : ρ y = .agg m.toArray) : (execOp ρ o).run P w = .ok (.value (.bool (!eqCells l m))) w := by
  obtain ⟨_, _, _, _, hg, _⟩ := mixed_of ht
  unfold execOp
  rw [ho]
  simp only [Sem.run_bind, hx, hy, run_eqGuard_agg w _ _ _ _ _ _ hg, Result.andThen_ok, run_neq_struct, run_equal_mix ht hl hm hlo hmo]
  rfl
theorem eqCells_self {l : List Value} (h : ∀ v ∈ l, (∃ k a, v = .int k a) ∨ ∃ s, v = .string s) : eqCells l l = true := by
  induction l with
  | nil => rfl
  | cons v l ih =>
    rw [eqCells, ih (fun u hu => h u (by simp [hu]))]
    rcases h v (by simp) with ⟨k, a, rfl⟩ | ⟨s, rfl⟩
    · simp [eqCell]
    · simp [eqCell]
end Go.Gh
/-
  Labels: the walks of SameLabels and SameMatches (PRINTED by mklb10.py).
-/
namespace Go.Gh
instance decLb : DecidableEq Lb := fun a b => if h : a.nm = b.nm ∧ a.vl = b.vl then isTrue (by cases a; cases b; simp_all) else isFalse (fun e => h (by rw [e]; exact ⟨rfl, rfl⟩))
instance decMt : DecidableEq Mt := fun a b => if h : a.kd = b.kd ∧ a.nm = b.nm ∧ a.vl = b.vl then isTrue (by cases a; cases b; simp_all) else isFalse (fun e => h (by rw [e]; exact ⟨rfl, rfl, rfl⟩))
theorem take_same {α : Type} {L M : List α} {k : Nat} {x : α} (h : L.take k = M.take k) (hx : L[k]? = some x) (hy : M[k]? = some x) : L.take (k + 1) = M.take (k + 1) := by
  rw [List.take_add_one, List.take_add_one, h, hx, hy]
theorem get_ne {α : Type} {L M : List α} {k : Nat} {x y : α} (hx : L[k]? = some x) (hy : M[k]? = some y) (h : ¬ x = y) : ¬ L = M := by
  intro e
  rw [e, hy] at hx
  injection hx with hx
  exact h hx.symm
end Go.Gh
namespace Go.Proofs.YtlfhcjhbnakamaaGreatDoor.Lab
open Go.RowKit Go.Gh
set_option linter.unusedVariables false
set_option linter.unusedSimpArgs false
theorem mixLb : mixed Tryz.prog 72 2 = true := by kernel_rfl
theorem mixMt : mixed Tryz.prog 70 3 = true := by kernel_rfl
theorem fdLb0 : fieldDesc Tryz.prog 72 0 = some .string := by kernel_rfl
theorem fdLb1 : fieldDesc Tryz.prog 72 1 = some .string := by kernel_rfl
theorem fdMt0 : fieldDesc Tryz.prog 70 0 = some (.int .i64) := by kernel_rfl
theorem fdMt1 : fieldDesc Tryz.prog 70 1 = some .string := by kernel_rfl
theorem fdMt2 : fieldDesc Tryz.prog 70 2 = some .string := by kernel_rfl
theorem row_ok_lb (a b : ByteArray) : rowOk Tryz.prog 72 [.string a, .string b] := by
  intro i v hv
  match i, hv with
  | 0, hv => (simp only [List.getElem?_cons_zero, List.getElem?_cons_succ, Option.some.injEq] at hv); subst hv; rw [fdLb0]; exact trivial
  | 1, hv => (simp only [List.getElem?_cons_zero, List.getElem?_cons_succ, Option.some.injEq] at hv); subst hv; rw [fdLb1]; exact trivial
theorem row_ok_mt (k : Int) (a b : ByteArray) : rowOk Tryz.prog 70 [.int .i64 k, .string a, .string b] := by
  intro i v hv
  match i, hv with
  | 0, hv => (simp only [List.getElem?_cons_zero, List.getElem?_cons_succ, Option.some.injEq] at hv); subst hv; rw [fdMt0]; exact rfl
  | 1, hv => (simp only [List.getElem?_cons_zero, List.getElem?_cons_succ, Option.some.injEq] at hv); subst hv; rw [fdMt1]; exact trivial
  | 2, hv => (simp only [List.getElem?_cons_zero, List.getElem?_cons_succ, Option.some.injEq] at hv); subst hv; rw [fdMt2]; exact trivial
theorem eq_lb (x y : Lb) : eqCells [.string (mkS x.nm), .string (mkS x.vl)] [.string (mkS y.nm), .string (mkS y.vl)] = decide (x = y) := by
  show (((mkS x.nm).toList == (mkS y.nm).toList) && (((mkS x.vl).toList == (mkS y.vl).toList) && true)) = _
  rw [mkS_list, mkS_list, mkS_list, mkS_list, Bool.and_true, Bool.eq_iff_iff]
  cases x; cases y
  simp
theorem eq_mt (x y : Mt) : eqCells [.int .i64 x.kd, .string (mkS x.nm), .string (mkS x.vl)] [.int .i64 y.kd, .string (mkS y.nm), .string (mkS y.vl)] = decide (x = y) := by
  show ((x.kd == y.kd) && (((mkS x.nm).toList == (mkS y.nm).toList) && (((mkS x.vl).toList == (mkS y.vl).toList) && true))) = _
  rw [mkS_list, mkS_list, mkS_list, mkS_list, Bool.and_true, Bool.eq_iff_iff]
  cases x; cases y
  simp
theorem ret_bool' {a b : Bool} (h : a = b) : Ending.returned (.bool a) = Ending.returned (.bool b) := by rw [h]
set_option maxHeartbeats 4000000 in
set_option maxRecDepth 100000 in
theorem samelb_any (v u : Value) (L M : List Lb) (w : World) (hs : Sp LbR 2 w v L) (ht : Sp LbR 2 w u M) : Calls Tryz.prog 13 #[v, u] w fun e w' => e = .returned (.bool (decide (L = M))) ∧ Below w.heap.size w w' := by
  obtain ⟨n, hn⟩ : ∃ n, L.length = n := ⟨_, rfl⟩
  obtain ⟨o, ho⟩ : ∃ n, M.length = n := ⟨_, rfl⟩
  obtain ⟨ao, c, rfl, hnc, hc⟩ := hs.shapeN hn
  obtain ⟨bo, d, rfl, hod, hd⟩ := ht.shapeN ho
  have HL := Lib.hid hn
  have HM := Lib.hid ho
  have HS := Lib.hid hs
  have HU := Lib.hid ht
  clear hs ht
  by_cases hno : n = o
  · subst hno
    clear hn ho
    go_enter Tryz.func13, Tryz.ntmps13
    go_wp2_with fail
    go_loopw [4, 5, 13] (fun r _ i wr => ∃ k : Nat, k ≤ n ∧ i = .int .i64 k ∧ r = .bool false ∧ Below w.heap.size w wr ∧ Hid (L.take k = M.take k)) (fun _ _ i _ => n - (intOf i).toNat)
    case atStart => exact ⟨0, by omega, rfl, rfl, Below.refl _ _, Lib.hid rfl⟩
    case round =>
      obtain ⟨k, hk, rfl, rfl, hbr, HE⟩ := hrel
      by_cases hlt : k < n
      · obtain ⟨x, hx⟩ : ∃ x, L[k]? = some x := ⟨_, List.getElem?_eq_getElem (by rw [HL.out]; exact hlt)⟩
        obtain ⟨y, hy⟩ : ∃ y, M[k]? = some y := ⟨_, List.getElem?_eq_getElem (by rw [HM.out]; exact hlt)⟩
        obtain ⟨b, off, cs, rfl, ⟨rfl, hl1, hl2⟩, _, hck⟩ := (HS.out.below lbR_mono hbr).get hx
        obtain ⟨b', off', cs', rfl, ⟨rfl, hm1, hm2⟩, _, hcj⟩ := (HU.out.below lbR_mono hbr).get hy
        have c0 := hck 0 _ rfl
        have e0 := hcj 0 _ rfl
        have c1 := hck 1 _ rfl
        have e1 := hcj 1 _ rfl
        rw [Nat.add_zero] at c0 e0
        have hq := eq_lb x y
        obtain ⟨nmx, hnmx⟩ : ∃ z, z = mkS x.nm := ⟨_, rfl⟩
        obtain ⟨vlx, hvlx⟩ : ∃ z, z = mkS x.vl := ⟨_, rfl⟩
        obtain ⟨nmy, hnmy⟩ : ∃ z, z = mkS y.nm := ⟨_, rfl⟩
        obtain ⟨vly, hvly⟩ : ∃ z, z = mkS y.vl := ⟨_, rfl⟩
        rw [← hnmx, ← hvlx, ← hnmy, ← hvly] at hq
        rw [← hnmx] at c0
        rw [← hvlx] at c1
        rw [← hnmy] at e0
        rw [← hvly] at e1
        have HQ := Lib.hid hq
        have HX := Lib.hid hx
        have HY := Lib.hid hy
        clear hnmx hvlx hnmy hvly hck hcj hx hy hq
        by_cases he : x = y
        · have HN : Hid (L.take (k + 1) = M.take (k + 1)) := Lib.hid (take_same HE.out HX.out (by rw [he]; exact HY.out))
          go_wp2_with fail
          refine wp_region_quiet_lit (by kernel_rfl) (by kernel_rfl) ?_
          repeat (go_big_quiet_step (fail))
          go_big_quiet_want
          refine quiet_of_run (.bool false) (fun w' => (exec_neq_mix (l := [.string nmx, .string vlx]) (m := [.string nmy, .string vly]) rfl mixLb rfl rfl (row_ok_lb _ _) (row_ok_lb _ _) rfl rfl).trans (by rw [HQ.out, decide_eq_true he]; rfl)) ?_
          go_big_quiet_on
          refine wpQuiet_nil ?_
          rintro _ ⟨nq, rfl⟩
          go_wp2
          go_roundw
          case rel => exact ⟨k + 1, by omega, by go_num, rfl, below_drewN hbr _, HN⟩
          case measure => simp [intOf]; omega
        · have HN : Hid (decide (L = M) = false) := Lib.hid (decide_eq_false (get_ne HX.out HY.out he))
          go_wp2_with fail
          refine wp_region_quiet_lit (by kernel_rfl) (by kernel_rfl) ?_
          repeat (go_big_quiet_step (fail))
          go_big_quiet_want
          refine quiet_of_run (.bool true) (fun w' => (exec_neq_mix (l := [.string nmx, .string vlx]) (m := [.string nmy, .string vly]) rfl mixLb rfl rfl (row_ok_lb _ _) (row_ok_lb _ _) rfl rfl).trans (by rw [HQ.out, decide_eq_false he]; rfl)) ?_
          go_big_quiet_on
          refine wpQuiet_nil ?_
          rintro _ ⟨nq, rfl⟩
          go_wp2
          go_ret
          exact ⟨ret_bool' HN.out.symm, below_drewN hbr _⟩
      · obtain rfl : k = n := by omega
        have HN : Hid (decide (L = M) = true) := Lib.hid (decide_eq_true (by
          have h := HE.out
          rwa [List.take_of_length_le (by rw [HL.out]; exact Nat.le_refl _), List.take_of_length_le (by rw [HM.out]; exact Nat.le_refl _)] at h))
        go_wp2_with fail
        go_ret
        exact ⟨ret_bool' HN.out.symm, hbr⟩
  · have HN : Hid (decide (L = M) = false) := Lib.hid (decide_eq_false (fun h => hno (by rw [← hn, ← ho, h])))
    have hne : ((n : Int) != (o : Int)) = true := by rw [bne_iff_ne]; omega
    clear hn ho
    go_enter Tryz.func13, Tryz.ntmps13
    go_wp2_with fail
    go_ret
    exact ⟨ret_bool' HN.out.symm, Below.refl _ _⟩
set_option maxHeartbeats 4000000 in
set_option maxRecDepth 100000 in
theorem samemt_any (v u : Value) (L M : List Mt) (w : World) (hs : Sp MtR 3 w v L) (ht : Sp MtR 3 w u M) : Calls Tryz.prog 30 #[v, u] w fun e w' => e = .returned (.bool (decide (L = M))) ∧ Below w.heap.size w w' := by
  obtain ⟨n, hn⟩ : ∃ n, L.length = n := ⟨_, rfl⟩
  obtain ⟨o, ho⟩ : ∃ n, M.length = n := ⟨_, rfl⟩
  obtain ⟨ao, c, rfl, hnc, hc⟩ := hs.shapeN hn
  obtain ⟨bo, d, rfl, hod, hd⟩ := ht.shapeN ho
  have HL := Lib.hid hn
  have HM := Lib.hid ho
  have HS := Lib.hid hs
  have HU := Lib.hid ht
  clear hs ht
  by_cases hno : n = o
  · subst hno
    clear hn ho
    go_enter Tryz.func30, Tryz.ntmps30
    go_wp2_with fail
    go_loopw [4, 5, 13] (fun r _ i wr => ∃ k : Nat, k ≤ n ∧ i = .int .i64 k ∧ r = .bool false ∧ Below w.heap.size w wr ∧ Hid (L.take k = M.take k)) (fun _ _ i _ => n - (intOf i).toNat)
    case atStart => exact ⟨0, by omega, rfl, rfl, Below.refl _ _, Lib.hid rfl⟩
    case round =>
      obtain ⟨k, hk, rfl, rfl, hbr, HE⟩ := hrel
      by_cases hlt : k < n
      · obtain ⟨x, hx⟩ : ∃ x, L[k]? = some x := ⟨_, List.getElem?_eq_getElem (by rw [HL.out]; exact hlt)⟩
        obtain ⟨y, hy⟩ : ∃ y, M[k]? = some y := ⟨_, List.getElem?_eq_getElem (by rw [HM.out]; exact hlt)⟩
        obtain ⟨b, off, cs, rfl, ⟨rfl, hl1, hl2, hl3, hl4⟩, _, hck⟩ := (HS.out.below mtR_mono hbr).get hx
        obtain ⟨b', off', cs', rfl, ⟨rfl, hm1, hm2, hm3, hm4⟩, _, hcj⟩ := (HU.out.below mtR_mono hbr).get hy
        have c0 := hck 0 _ rfl
        have e0 := hcj 0 _ rfl
        have c1 := hck 1 _ rfl
        have e1 := hcj 1 _ rfl
        have c2 := hck 2 _ rfl
        have e2 := hcj 2 _ rfl
        rw [Nat.add_zero] at c0 e0
        have hq := eq_mt x y
        obtain ⟨kdx, hkdx⟩ : ∃ z, z = x.kd := ⟨_, rfl⟩
        obtain ⟨nmx, hnmx⟩ : ∃ z, z = mkS x.nm := ⟨_, rfl⟩
        obtain ⟨vlx, hvlx⟩ : ∃ z, z = mkS x.vl := ⟨_, rfl⟩
        obtain ⟨kdy, hkdy⟩ : ∃ z, z = y.kd := ⟨_, rfl⟩
        obtain ⟨nmy, hnmy⟩ : ∃ z, z = mkS y.nm := ⟨_, rfl⟩
        obtain ⟨vly, hvly⟩ : ∃ z, z = mkS y.vl := ⟨_, rfl⟩
        rw [← hkdx, ← hnmx, ← hvlx, ← hkdy, ← hnmy, ← hvly] at hq
        rw [← hkdx] at c0
        rw [← hnmx] at c1
        rw [← hvlx] at c2
        rw [← hkdy] at e0
        rw [← hnmy] at e1
        rw [← hvly] at e2
        have HQ := Lib.hid hq
        have HX := Lib.hid hx
        have HY := Lib.hid hy
        clear hkdx hnmx hvlx hkdy hnmy hvly hck hcj hx hy hq
        by_cases he : x = y
        · have HN : Hid (L.take (k + 1) = M.take (k + 1)) := Lib.hid (take_same HE.out HX.out (by rw [he]; exact HY.out))
          go_wp2_with fail
          refine wp_region_quiet_lit (by kernel_rfl) (by kernel_rfl) ?_
          repeat (go_big_quiet_step (fail))
          go_big_quiet_want
          refine quiet_of_run (.bool false) (fun w' => (exec_neq_mix (l := [.int .i64 kdx, .string nmx, .string vlx]) (m := [.int .i64 kdy, .string nmy, .string vly]) rfl mixMt rfl rfl (row_ok_mt _ _ _) (row_ok_mt _ _ _) rfl rfl).trans (by rw [HQ.out, decide_eq_true he]; rfl)) ?_
          go_big_quiet_on
          refine wpQuiet_nil ?_
          rintro _ ⟨nq, rfl⟩
          go_wp2
          go_roundw
          case rel => exact ⟨k + 1, by omega, by go_num, rfl, below_drewN hbr _, HN⟩
          case measure => simp [intOf]; omega
        · have HN : Hid (decide (L = M) = false) := Lib.hid (decide_eq_false (get_ne HX.out HY.out he))
          go_wp2_with fail
          refine wp_region_quiet_lit (by kernel_rfl) (by kernel_rfl) ?_
          repeat (go_big_quiet_step (fail))
          go_big_quiet_want
          refine quiet_of_run (.bool true) (fun w' => (exec_neq_mix (l := [.int .i64 kdx, .string nmx, .string vlx]) (m := [.int .i64 kdy, .string nmy, .string vly]) rfl mixMt rfl rfl (row_ok_mt _ _ _) (row_ok_mt _ _ _) rfl rfl).trans (by rw [HQ.out, decide_eq_false he]; rfl)) ?_
          go_big_quiet_on
          refine wpQuiet_nil ?_
          rintro _ ⟨nq, rfl⟩
          go_wp2
          go_ret
          exact ⟨ret_bool' HN.out.symm, below_drewN hbr _⟩
      · obtain rfl : k = n := by omega
        have HN : Hid (decide (L = M) = true) := Lib.hid (decide_eq_true (by
          have h := HE.out
          rwa [List.take_of_length_le (by rw [HL.out]; exact Nat.le_refl _), List.take_of_length_le (by rw [HM.out]; exact Nat.le_refl _)] at h))
        go_wp2_with fail
        go_ret
        exact ⟨ret_bool' HN.out.symm, hbr⟩
  · have HN : Hid (decide (L = M) = false) := Lib.hid (decide_eq_false (fun h => hno (by rw [← hn, ← ho, h])))
    have hne : ((n : Int) != (o : Int)) = true := by rw [bne_iff_ne]; omega
    clear hn ho
    go_enter Tryz.func30, Tryz.ntmps30
    go_wp2_with fail
    go_ret
    exact ⟨ret_bool' HN.out.symm, Below.refl _ _⟩
end Go.Proofs.YtlfhcjhbnakamaaGreatDoor.Lab
/-
  'gaugehouselaw.StoreTells': the walk of the law (UNDER WAY).
-/
namespace Go.Proofs.YtlfhcjhbnakamaaGreatDoor.StoreTells
open Go.RowKit Go.Gh Go.Proofs.YtlfhcjhbnakamaaGreatDoor.Bits Go.Proofs.YtlfhcjhbnakamaaGreatDoor.Lab Go.Proofs.YtlfhcjhbnakamaaGreatDoor.Tk Go.Proofs.YtlfhcjhbnakamaaGreatDoor.Sto
set_option linter.unusedVariables false
set_option linter.unusedSimpArgs false
theorem dec_self (L : List Lb) : decide (L = L) = true := decide_eq_true rfl
theorem enc_wf {L : List Lb} {T V : Int} (b1 : -9223372036854775808 ≤ T) (b2 : T < 9223372036854775808) (b3 : -9223372036854775808 ≤ V) (b4 : V < 9223372036854775808) : ∀ z ∈ encB T V L, (Lit.int .u8 z).wf = true := by
  intro z hz
  unfold encB at hz
  rw [List.mem_flatten] at hz
  obtain ⟨l, hl, hz⟩ := hz
  simp only [List.mem_cons, List.not_mem_nil, or_false] at hl
  rcases hl with rfl | rfl | rfl
  · exact putI_wf 9 _ (zig_bd b1 b2).1 (Int.lt_trans (zig_bd b1 b2).2 (by decide)) z hz
  · exact putI_wf 9 _ (zig_bd b3 b4).1 (Int.lt_trans (zig_bd b3 b4).2 (by decide)) z hz
  · exact bytesL_wf (bytes_bI _) z hz
theorem eq_self (v v' : Value) (l : List Int) (w : World) (hv : Sl w 1 v l.length (l.map (Value.int .u8))) (hv' : Sl w 1 v' l.length (l.map (Value.int .u8))) (hl : ∀ z ∈ l, (Lit.int .u8 z).wf = true) : Calls Tryz.prog 22 #[v, v'] w fun e w' => e = .returned (.bool true) ∧ w = w' := by
  have h := equal_any v v' _ _ l l w hv hv' hl hl
  rw [decide_eq_true (rfl : l = l)] at h
  exact h
set_option maxHeartbeats 16000000 in
set_option maxRecDepth 100000 in
theorem walk (v0 v2 : Value) (T V : Int) (L : List Lb) (b : List Int) (w : World) (hs : Sp LbR 2 w v0 L) (hv : Sl w 1 v2 b.length (b.map (Value.int .u8))) (hb : BytesL b) (hn : b.length ≤ 1048576) (hT : STab w) (b1 : -9223372036854775808 ≤ T) (b2 : T < 9223372036854775808) (b3 : -9223372036854775808 ≤ V) (b4 : V < 9223372036854775808) :
    Calls Tryz.prog 5 #[v0, .agg #[.int .i64 T, .int .i64 V], v2] w fun e w' => e = .returned (.bool true) ∧ Below w.heap.size w w' := by
  obtain ⟨ao, c, rfl, -, -⟩ := hs.shape
  obtain ⟨bo, d, rfl, -, -, -⟩ := hv.shape
  obtain ⟨wa, hwa, hbox, hba, hsa⟩ := box_smp w T V
  have HEN := Lib.hid (encode_any _ L T V wa (hs.below lbR_mono hba) (hT.below hba) b1 b2 b3 b4)
  have HDE := Lib.hid (fun W (h : Below w.heap.size w W) => decode_any _ b W (hv.below h) hb hn (hT.below h))
  have HPO := Lib.hid (fun W (h : Below w.heap.size w W) => putof_any _ b W (hv.below h) hb hn)
  have HPF := Lib.hid (fun W (h : Below w.heap.size w W) => putfault_any _ L T V W (hs.below lbR_mono h))
  have HPB := Lib.hid (fun W (h : Below w.heap.size w W) (h0 : labelF L = 0) => putbytes_any _ L T V W (hs.below lbR_mono h) h0 b1 b2 b3 b4)
  obtain ⟨n, hln⟩ : ∃ n, L.length = n := ⟨_, rfl⟩
  obtain ⟨m, hlm⟩ : ∃ n, b.length = n := ⟨_, rfl⟩
  rw [hln] at HEN HPF HPB ⊢
  rw [hlm] at HDE HPO ⊢
  have HW := Lib.hid (enc_wf (L := L) b1 b2 b3 b4)
  have HBA := Lib.hid hba
  have HWA := Lib.hid hwa
  clear hs hv hb hn hT hln hlm hwa hba b1 b2 b3 b4
  go_enter Tryz.func5, Tryz.ntmps5
  go_upto_region 1 with (fail)
  rw [← HWA.out]
  obtain ⟨bx, hbx⟩ : ∃ bx, w.heap.size = bx := ⟨_, rfl⟩
  rw [hbx] at hbox hsa ⊢
  have HBX := Lib.hid hbx
  clear hbx
  obtain ⟨⟨d0, d1⟩, -⟩ := bx2 hbox
  go_upto_region 2 with (go_at_call 18; refine HEN.out.mono ?_; rintro e w1 ⟨hb1, v1, rfl, ho1⟩; have HO1 := Lib.hid ho1; have hbox1 := (hb1.block bx hsa).trans hbox; have HB1 := Lib.hid (HBA.out.trans (hb1.mono HBA.out.size)); clear hb1 ho1)
  have hl1 : bx < w1.heap.size := (Array.getElem?_eq_some_iff.1 hbox1).1
  have HDE1 := Lib.hid (HDE.out w1 HB1.out)
  clear d0 d1 hbox
  cases hr : decF b with
  | none =>
    rw [hr] at HDE1 HPO
    go_upto_region 3 with (go_at_call 19; refine HDE1.out.mono ?_; rintro e w2 ⟨hb2, rfl⟩; have hbox2 := (hb2.block bx hl1).trans hbox1; have HO2 := Lib.hid (own_below HO1.out hb2); have HB2 := Lib.hid (HB1.out.trans (hb2.mono HB1.out.size)); clear hb2)
    obtain ⟨wx, hwx, hbx2, hbbx, hl2⟩ := box_smp w2 (0) (0)
    rw [← hwx]
    have hboxx := (hbbx.block bx (Array.getElem?_eq_some_iff.1 hbox2).1).trans hbox2
    have HXB := Lib.hid hbbx
    have HBX2 := Lib.hid (HB2.out.trans (hbbx.mono HB2.out.size))
    have HOX := Lib.hid (own_below HO2.out hbbx)
    have HPX := Lib.hid (HPO.out wx HBX2.out)
    have hlx : bx < wx.heap.size := (Array.getElem?_eq_some_iff.1 hboxx).1
    clear hwx hbbx hbox1 hbox2
    go_upto_region 4 with (go_at_call 20; refine HPX.out.mono ?_; rintro e w3 ⟨hb3, rfl⟩; have hbox3 := (hb3.block bx hlx).trans hboxx; have hbx3 := (hb3.block _ hl2).trans hbx2; have HO3 := Lib.hid (own_below HOX.out hb3); have HB3 := Lib.hid (HBX2.out.trans (hb3.mono HBX2.out.size)); clear hb3)
    have hl3b : bx < w3.heap.size := (Array.getElem?_eq_some_iff.1 hbox3).1
    have hl3y : w2.heap.size < w3.heap.size := (Array.getElem?_eq_some_iff.1 hbx3).1
    obtain ⟨wy, hwy, hby, hbby, hl3⟩ := box_smp w3 (0) (0)
    rw [← hwy]
    have hboxy := (hbby.block bx (Array.getElem?_eq_some_iff.1 hbox3).1).trans hbox3
    have hbx2y := (hbby.block _ (Array.getElem?_eq_some_iff.1 hbx3).1).trans hbx3
    have HOY := Lib.hid (own_below HO3.out hbby)
    have HBY := Lib.hid (HB3.out.trans (hbby.mono HB3.out.size))
    have HBBY := Lib.hid hbby
    clear hwy hbby hbox3 hbx3 hboxx hbx2
    have hl3z : bx < w3.heap.size := hl3b
    obtain ⟨⟨d0, d1⟩, f0, f1⟩ := bx2 hby
    go_upto_region 6 with (fail)
    have hst : Below w3.heap.size wy ((wy.setCell ⟨w3.heap.size, 0, none⟩ (.int .i64 0)).setCell ⟨w3.heap.size, 1, none⟩ (.int .i64 0)) := ((Below.refl _ wy).setCell (p := ⟨w3.heap.size, 0, none⟩) (Nat.le_refl _) _).setCell (p := ⟨w3.heap.size, 1, none⟩) (Nat.le_refl _) _
    have hz := st2 (.int .i64 0) (.int .i64 0) hby
    obtain ⟨wz, hwz⟩ : ∃ wz, wz = ((wy.setCell ⟨w3.heap.size, 0, none⟩ (.int .i64 0)).setCell ⟨w3.heap.size, 1, none⟩ (.int .i64 0)) := ⟨_, rfl⟩
    rw [← hwz] at hst hz ⊢
    have hboxz := (hst.block bx hl3z).trans hboxy
    have hbx2z := (hst.block _ hl3y).trans hbx2y
    have HOZ := Lib.hid (own_below HO3.out (HBBY.out.trans hst))
    have HBZ := Lib.hid (HBY.out.trans (hst.mono HB3.out.size))
    have hl4 : bx < wz.heap.size := (Array.getElem?_eq_some_iff.1 hboxz).1
    have hl5 := (Array.getElem?_eq_some_iff.1 hbx2z).1
    have hl6 := (Array.getElem?_eq_some_iff.1 hz).1
    have hsy := samelb_any (.slice none 0 0) (.slice none 0 0) [] [] wz Sp.nil Sp.nil
    rw [dec_self] at hsy
    have HSZ := Lib.hid hsy
    clear hsy hst hwz d0 d1 f0 f1 hboxy hbx2y hby
    go_upto_region 8 with (go_at_call 13; refine HSZ.out.mono ?_; rintro e w4 ⟨rfl, hb4⟩; have hbox4 := (hb4.block bx hl4).trans hboxz; obtain ⟨⟨c0, c1⟩, -⟩ := bx2 ((hb4.block _ hl5).trans hbx2z); obtain ⟨⟨e0, e1⟩, -⟩ := bx2 ((hb4.block _ hl6).trans hz); have HO4 := Lib.hid (own_below HOZ.out hb4); have HB4 := Lib.hid (HBZ.out.trans (hb4.mono HBZ.out.size)); clear hb4)
    obtain ⟨⟨g0, g1⟩, -⟩ := bx2 hbox4
    have HPF4 := Lib.hid (HPF.out w4 HB4.out)
    have hl7 := (Array.getElem?_eq_some_iff.1 hbox4).1
    obtain ⟨F, hF⟩ : ∃ F, putF L T = F := ⟨_, rfl⟩
    rw [hF] at HPF4 ⊢
    have HF := Lib.hid hF
    clear hF c0 c1 e0 e1
    go_upto_region 9 with (go_at_call 21; refine HPF4.out.mono ?_; rintro e w5 ⟨rfl, hb5⟩; have hbox5 := (hb5.block bx hl7).trans hbox4; have HO5 := Lib.hid (own_below HO4.out hb5); have HB5 := Lib.hid (HB4.out.trans (hb5.mono HB4.out.size)); clear hb5)
    by_cases hz : F = 0
    case neg =>
      have hx : encR L T V = [] := by unfold encR; rw [HF.out]; exact if_neg hz
      have ho := HO5.out
      rw [hx] at ho
      obtain ⟨a1, c1, rfl, -, -, -⟩ := own_shape ho
      have t1 : (F != 0) = true := by rw [bne_iff_ne]; exact hz
      clear hx ho hz
      go_wp2_with fail
      go_ret
      exact ⟨rfl, HB5.out⟩
    subst hz
    have hx : encR L T V = encB T V L := by unfold encR; exact if_pos HF.out
    have hlf : labelF L = 0 := by
      have h := HF.out
      unfold putF at h
      by_cases h0 : labelF L = 0
      · exact h0
      · rw [if_pos h0] at h; exact absurd h h0
    have HPB5 := Lib.hid (HPB.out w5 HB5.out hlf)
    have ho := HO5.out
    rw [hx] at ho
    have HO6 := Lib.hid ho
    obtain ⟨⟨q0, q1⟩, -⟩ := bx2 hbox5
    clear hx hlf ho g0 g1
    go_wp2_with (first
      | (go_at_call 23; refine HPB5.out.mono ?_; rintro e w6 ⟨v6, rfl, ho6, hb6⟩; have HB6 := Lib.hid (HB5.out.trans (hb6.mono HB5.out.size)); have HEQ := Lib.hid (eq_self _ _ _ w6 (own_sl (own_below HO6.out hb6)) (own_sl ho6) HW.out); clear ho6 hb6)
      | (go_at_call 22; refine HEQ.out.mono ?_; rintro e w7 ⟨rfl, rfl⟩))
    go_ret
    exact ⟨rfl, HB6.out⟩
  | some r =>
    obtain ⟨L2, T2, V2⟩ := r
    rw [hr] at HDE1 HPO
    go_upto_region 3 with (go_at_call 19; refine HDE1.out.mono ?_; rintro e w2 ⟨hb2, v2, rfl, hs2⟩; have hbox2 := (hb2.block bx hl1).trans hbox1; have HO2 := Lib.hid (own_below HO1.out hb2); have HB2 := Lib.hid (HB1.out.trans (hb2.mono HB1.out.size)); clear hb2)
    obtain ⟨wx, hwx, hbx2, hbbx, hl2⟩ := box_smp w2 (T2) (V2)
    rw [← hwx]
    have hboxx := (hbbx.block bx (Array.getElem?_eq_some_iff.1 hbox2).1).trans hbox2
    have HXB := Lib.hid hbbx
    have HBX2 := Lib.hid (HB2.out.trans (hbbx.mono HB2.out.size))
    have HOX := Lib.hid (own_below HO2.out hbbx)
    have HPX := Lib.hid (HPO.out wx HBX2.out)
    have hlx : bx < wx.heap.size := (Array.getElem?_eq_some_iff.1 hboxx).1
    have HS2 := Lib.hid (hs2.below lbR_mono hbbx)
    clear hs2
    clear hwx hbbx hbox1 hbox2
    go_upto_region 4 with (go_at_call 20; refine HPX.out.mono ?_; rintro e w3 ⟨hb3, v3, rfl, hs3⟩; have hbox3 := (hb3.block bx hlx).trans hboxx; have hbx3 := (hb3.block _ hl2).trans hbx2; have HO3 := Lib.hid (own_below HOX.out hb3); have HS3 := Lib.hid hs3; have HS23 := Lib.hid (HS2.out.below lbR_mono hb3); clear hs3; have HB3 := Lib.hid (HBX2.out.trans (hb3.mono HBX2.out.size)); clear hb3)
    have hl3b : bx < w3.heap.size := (Array.getElem?_eq_some_iff.1 hbox3).1
    have hl3y : w2.heap.size < w3.heap.size := (Array.getElem?_eq_some_iff.1 hbx3).1
    obtain ⟨wy, hwy, hby, hbby, hl3⟩ := box_smp w3 (T2) (V2)
    rw [← hwy]
    have hboxy := (hbby.block bx (Array.getElem?_eq_some_iff.1 hbox3).1).trans hbox3
    have hbx2y := (hbby.block _ (Array.getElem?_eq_some_iff.1 hbx3).1).trans hbx3
    have HOY := Lib.hid (own_below HO3.out hbby)
    have HBY := Lib.hid (HB3.out.trans (hbby.mono HB3.out.size))
    have HBBY := Lib.hid hbby
    have HSY := Lib.hid (samelb_any v2 v3 L2 L2 wy (HS23.out.below lbR_mono hbby) (HS3.out.below lbR_mono hbby))
    clear hwy hbby hbox3 hbx3 hboxx hbx2
    have hsy := HSY.out
    rw [dec_self] at hsy
    have HSZ := Lib.hid hsy
    have hl4 : bx < wy.heap.size := (Array.getElem?_eq_some_iff.1 hboxy).1
    have hl5 := (Array.getElem?_eq_some_iff.1 hbx2y).1
    have hl6 := (Array.getElem?_eq_some_iff.1 hby).1
    clear hsy
    go_upto_region 8 with (go_at_call 13; refine HSZ.out.mono ?_; rintro e w4 ⟨rfl, hb4⟩; have hbox4 := (hb4.block bx hl4).trans hboxy; obtain ⟨⟨c0, c1⟩, -⟩ := bx2 ((hb4.block _ hl5).trans hbx2y); obtain ⟨⟨e0, e1⟩, -⟩ := bx2 ((hb4.block _ hl6).trans hby); have HO4 := Lib.hid (own_below HOY.out hb4); have HB4 := Lib.hid (HBY.out.trans (hb4.mono HBY.out.size)); clear hb4)
    obtain ⟨⟨g0, g1⟩, -⟩ := bx2 hbox4
    have HPF4 := Lib.hid (HPF.out w4 HB4.out)
    have hl7 := (Array.getElem?_eq_some_iff.1 hbox4).1
    obtain ⟨F, hF⟩ : ∃ F, putF L T = F := ⟨_, rfl⟩
    rw [hF] at HPF4 ⊢
    have HF := Lib.hid hF
    clear hF c0 c1 e0 e1
    go_upto_region 9 with (go_at_call 21; refine HPF4.out.mono ?_; rintro e w5 ⟨rfl, hb5⟩; have hbox5 := (hb5.block bx hl7).trans hbox4; have HO5 := Lib.hid (own_below HO4.out hb5); have HB5 := Lib.hid (HB4.out.trans (hb5.mono HB4.out.size)); clear hb5)
    by_cases hz : F = 0
    case neg =>
      have hx : encR L T V = [] := by unfold encR; rw [HF.out]; exact if_neg hz
      have ho := HO5.out
      rw [hx] at ho
      obtain ⟨a1, c1, rfl, -, -, -⟩ := own_shape ho
      have t1 : (F != 0) = true := by rw [bne_iff_ne]; exact hz
      clear hx ho hz
      go_wp2_with fail
      go_ret
      exact ⟨rfl, HB5.out⟩
    subst hz
    have hx : encR L T V = encB T V L := by unfold encR; exact if_pos HF.out
    have hlf : labelF L = 0 := by
      have h := HF.out
      unfold putF at h
      by_cases h0 : labelF L = 0
      · exact h0
      · rw [if_pos h0] at h; exact absurd h h0
    have HPB5 := Lib.hid (HPB.out w5 HB5.out hlf)
    have ho := HO5.out
    rw [hx] at ho
    have HO6 := Lib.hid ho
    obtain ⟨⟨q0, q1⟩, -⟩ := bx2 hbox5
    clear hx hlf ho g0 g1
    go_wp2_with (first
      | (go_at_call 23; refine HPB5.out.mono ?_; rintro e w6 ⟨v6, rfl, ho6, hb6⟩; have HB6 := Lib.hid (HB5.out.trans (hb6.mono HB5.out.size)); have HEQ := Lib.hid (eq_self _ _ _ w6 (own_sl (own_below HO6.out hb6)) (own_sl ho6) HW.out); clear ho6 hb6)
      | (go_at_call 22; refine HEQ.out.mono ?_; rintro e w7 ⟨rfl, rfl⟩))
    go_ret
    exact ⟨rfl, HB6.out⟩
end Go.Proofs.YtlfhcjhbnakamaaGreatDoor.StoreTells
/-
  A sample by value, and bytes, that came in, under the bound on the bulk.
-/
namespace Go.Proofs.YtlfhcjhbnakamaaGreatDoor.StoreTells
open Go.RowKit Go.Gh Go.WideShapes Go.ChangeShapes Go.ChangeAt Go.Deep Go.Joins Go.Proofs.YtlfhcjhbnakamaaGreatDoor.Lab Go.Proofs.YtlfhcjhbnakamaaGreatDoor.Tk
set_option linter.unusedVariables false
set_option linter.unusedSimpArgs false
set_option maxRecDepth 100000
def IsSmpV (v : Value) : Prop := ∃ T V : Int, v = .agg #[.int .i64 T, .int .i64 V] ∧ -9223372036854775808 ≤ T ∧ T < 9223372036854775808 ∧ -9223372036854775808 ≤ V ∧ V < 9223372036854775808
def IsByB (w : World) (v : Value) : Prop := ∃ b : List Int, Sl w 1 v b.length (b.map (Value.int .u8)) ∧ BytesL b ∧ b.length ≤ 1048576
theorem cellsSmp : (Tryz.prog.cellsOf 2) = 1 := by kernel_rfl
section
variable {H : Type} {enc : TypeId × Value → H} {W : World} {base b0 : Nat} {r : Reach} {spare : Nat → Bool} {held : Bool} {v : Value} {d : DataW H} {ps : List MemPlace}
theorem isSmpV_of (hv : Value.okWide Tryz.prog W r b0 44 v) (hd : DataW.Trod enc Tryz.prog W base spare held 44 v d ps) (hb : Rows.uptoBulk d ≤ 1048576) : IsSmpV v := by
  obtain ⟨v0, v1, y0, y1, n, rfl, rfl, rfl, h0, h1⟩ := open_agg2 Tryz.underlying44 (by kernel_rfl) (by kernel_rfl) hv hd
  obtain ⟨T, hT, _, hTw⟩ := DataW.trod_int Tryz.underlying2 h0
  obtain ⟨V, hV, _, hVw⟩ := DataW.trod_int Tryz.underlying2 h1
  obtain rfl : v0 = .int .i64 T := by simpa using hT
  obtain rfl : v1 = .int .i64 V := by simpa using hV
  exact ⟨T, V, rfl, (wf_i64 hTw).1, (wf_i64 hTw).2, (wf_i64 hVw).1, (wf_i64 hVw).2⟩
theorem isByB_of (hv : Value.okWide Tryz.prog W r b0 45 v) (hd : DataW.Trod enc Tryz.prog W base spare held 45 v d ps) (hb : Rows.uptoBulk d ≤ 1048576) : IsByB W v := by
  obtain ⟨ao, len, cap, rfl⟩ := okWide_slice Tryz.underlying45 hv
  obtain ⟨fuel, hd⟩ := hd
  have hd' : DataW.trod enc Tryz.prog W base spare held fuel 45 [.slice ao len cap] = some (d, ps) := by simpa [Value.cells] using hd
  obtain ⟨n, zs, h1, h2, h3⟩ := sl_ints_b (x := (d, ps)) Tryz.underlying45 Tryz.underlying5 (by kernel_rfl) hd' hb
  have hl : zs.length = n := by
    obtain ⟨_, _, _, _, _, h⟩ := h1.shape
    simpa using h
  subst hl
  exact ⟨zs, h1, fun z hz => wf_u8 (h2 z hz), h3⟩
end
theorem walk3 (v0 v1 v2 : Value) (w : World) (h0 : IsLbs w v0) (h1 : IsSmpV v1) (h2 : IsByB w v2) (hT : STab w) :
    Calls Tryz.prog 5 #[v0, v1, v2] w fun e w' => e = .returned (.bool true) ∧ Below w.heap.size w w' := by
  obtain ⟨L, hL⟩ := h0
  obtain ⟨T, V, rfl, b1, b2, b3, b4⟩ := h1
  obtain ⟨b, hb, hbl, hbn⟩ := h2
  exact walk v0 v2 T V L b w hL hb hbl hbn hT b1 b2 b3 b4
end Go.Proofs.YtlfhcjhbnakamaaGreatDoor.StoreTells
/-
  'gaugehouselaw.StoreTells' returns true, whatever is handed in of bulk at most 1048576 (the given second form's bound), and its arguments read behind the call as they read before; the listed tables as the program's text lays them: THE ROW and THE TIED CARD.
-/
namespace Go.Proofs.YtlfhcjhbnakamaaGreatDoor.StoreTells
open Go.RowKit Go.ChangeShapes Go.WideShapes Go.ChangeAt Go.Gh Go.Proofs.YtlfhcjhbnakamaaGreatDoor.Lab
set_option linter.unusedVariables false
set_option linter.unusedSimpArgs false
theorem own : ownKnob Tryz.prog.godebug = none := by kernel_rfl
theorem laidOut : laidOutB Tryz.prog = true := by kernel_rfl
set_option maxRecDepth 100000 in
theorem contract (H : Type) (enc : TypeId × Value → H) (W : World) (base : Nat) (args : Array Value) (ds gs : List (DataW H)) (before : List MemPlace)
    (hval : ∀ (j : Nat) t v, Tryz.f5.params[j]? = some t → args[j]? = some v → Value.okWide Tryz.prog W .any base t v)
    (hW : DataW.Whole enc Tryz.prog Tryz.f5.params.toList Rows.storeTellsSpec.vars false W args.toList ds gs before)
    (hk : Rows.uptoSmall H (ds ++ gs) = true)
    (hL : laidMetH Tryz.prog Rows.storeTellsUptoRow.laid W) (hSh : W.ShapedOpen Tryz.prog) :
    Calls Tryz.prog 5 args W fun e W' => ∃ v, e = .returned v ∧ Rows.storeTellsSpec.post enc Tryz.prog Tryz.f5 false true false false W args v W' := by
  have hW' := hW
  obtain ⟨p, q, hA0, hV, rfl, hfz, hnd⟩ := hW
  have hA : DataW.TrodAll enc Tryz.prog W 0 (fun _ => true) true Tryz.f5.params.toList args.toList ds p := hA0
  rw [Tryz.params5] at hA hval
  obtain ⟨v0, vs0, d0, ds0, p0, q0, hargs, rfl, rfl, h0, r0⟩ := trodAll_cons hA
  obtain ⟨v1, vs1, d1, ds1, p1, q1, rfl, rfl, rfl, h1, r1⟩ := trodAll_cons r0
  obtain ⟨v2, vs2, d2, ds2, p2, q2, rfl, rfl, rfl, h2, r2⟩ := trodAll_cons r1
  obtain ⟨rfl, rfl, rfl⟩ := trodAll_nil r2
  obtain rfl : args = #[v0, v1, v2] := by cases args; simp_all
  obtain ⟨rfl, rfl⟩ := trodVars_none hV
  have u0 := (isLbsB_of (hval 0 _ v0 rfl rfl) h0 (bulk_at hk (by simp)))
  have u1 := (isSmpV_of (hval 1 _ v1 rfl rfl) h1 (bulk_at hk (by simp)))
  have u2 := (isByB_of (hval 2 _ v2 rfl rfl) h2 (bulk_at hk (by simp)))
  clear hA0
  refine (walk3 v0 v1 v2 W u0 u1 u2 (stab_of_laid hL)).mono fun e W' ⟨he, bel⟩ => ?_
  subst he
  exact ⟨_, rfl, _, _, _, [], _, [], hW', trodAll_mk1 (shut_bool Tryz.underlying4 _), (trodAll_cons_mk (Below.trod laidOut (by kernel_rfl) (of_decide_eq_true (by kernel_rfl)) h0 bel (trod_lt' h0)) (trodAll_cons_mk (Below.trod laidOut (by kernel_rfl) (of_decide_eq_true (by kernel_rfl)) h1 bel (trod_lt' h1)) (trodAll_cons_mk (Below.trod laidOut (by kernel_rfl) (of_decide_eq_true (by kernel_rfl)) h2 bel (trod_lt' h2)) trodAll_mk0))), rfl, bel.frame _, fun h => by cases h⟩

/-- A world for the witness: the settled one, the tables' blocks holding what their initialisers lay. -/
noncomputable def laidWorld (os : Os) : World :=
  { World.holding Tryz.prog os ⟨#[], #[], []⟩ with heap := ((World.holding Tryz.prog os ⟨#[], #[], []⟩).heap).modify 0 fun
      | .cells _ t frozen => .cells #[.string ⟨#[]⟩, .string ⟨#[61]⟩, .string ⟨#[33, 61]⟩, .string ⟨#[61, 94]⟩, .string ⟨#[61, 126]⟩] t frozen
      | o => o }
theorem laid_met (os : Os) : laidMet Tryz.prog Rows.storeTellsUptoRow.laid ((laidWorld os).forCall (fun _ _ => 0) ⟨#[], #[.slice none 0 0, .agg #[.int .i64 0, .int .i64 0], .slice none 0 0], []⟩).memory :=
  laidMet_of_run' 8 (by kernel_rfl) (by kernel_rfl)
theorem reads (os : Os) {H : Type} (enc : TypeId × Value → H) : ∃ places, DataW.whole enc Tryz.prog ((laidWorld os).forCall (fun _ _ => 0) ⟨#[], #[.slice none 0 0, .agg #[.int .i64 0, .int .i64 0], .slice none 0 0], []⟩).memory Tryz.f5.params.toList Rows.storeTellsSpec.vars false #[Value.slice none 0 0, .agg #[.int .i64 0, .int .i64 0], .slice none 0 0].toList 8 = some ([.nil, .agg [.lit (.int .i64 0), .lit (.int .i64 0)], .nil], [], places) :=
  ⟨[], by kernel_rfl⟩

set_option maxRecDepth 100000 in
theorem lifted (os : Os) (started : os.Started) (H : Type) (enc : TypeId × Value → H) (F : Stop.Interp) :
    ReturnsInHanded {} Tryz.checked os 5 .any ((Rows.OpenSpec.upto Rows.storeTellsSpec).preRow enc Tryz.prog Tryz.f5 Rows.storeTellsUptoRow.domain false Rows.storeTellsUptoRow.laid) (((Rows.OpenSpec.upto Rows.storeTellsSpec).at F).post enc Tryz.prog Tryz.f5 false true false false) := by
  obtain ⟨places, hx⟩ := reads os enc
  refine returnsInHanded_of_row (C := Tryz.checked) (s := Rows.OpenSpec.upto Rows.storeTellsSpec) own started (by kernel_rfl) Tryz.func5
    (witness_row_at (enc := enc) (C := Tryz.checked) false (laidWorld os) #[.slice none 0 0, .agg #[.int .i64 0, .int .i64 0], .slice none 0 0] rfl (by kernel_rfl) (by kernel_rfl) (by kernel_rfl)
      (OpenSpec.preRow_of_cond 8 hx (by kernel_rfl) (fun k hk => by cases hk; kernel_rfl) (by kernel_rfl) (laid_met os))) ?_
  intro W base args ds gs before hval hW _ hcond _ hL hSh _
  exact contract H enc W base args ds gs before hval hW (hcond _ rfl) hL hSh

theorem saidU : Rows.StoreTellsUptoSaid :=
  OpenClaim.holds_of_cond 5 Tryz.f5 rfl rfl rfl rfl rfl rfl rfl ⟨rfl, rfl, rfl, rfl, rfl⟩ rfl rfl rfl rfl rfl (by kernel_rfl) Tryz.func5 (by kernel_rfl)
    (of_decide_eq_true (by kernel_rfl)) (by unfold Func.isWrapper; first | (rw [if_pos (by decide +kernel)]; kernel_rfl) | (rw [if_neg (by decide +kernel)]; exact ⟨rfl, rfl⟩))
    (fun os started H enc _ F => by rw [OpenClaim.pre_eq_preRow]; exact lifted os started H enc F)

/-- No parameter wants a stand-in; the program's own looks are on. -/
theorem plain (f : FuncId) (fn : Func) (hf : Tryz.pinned.checked.prog.funcNamed "gaugehouse/gaugehouselaw.StoreTells" = some f) (hfn : Tryz.pinned.checked.prog.funcs[f]? = some fn) :
    true = Tryz.pinned.checked.prog.looks [] ∧ ∀ (j : Nat) t, fn.params[j]? = some t → Tryz.pinned.checked.prog.wantsStandIn t = false := by
  obtain rfl : f = 5 := Option.some.inj ((show Tryz.prog.funcNamed "gaugehouse/gaugehouselaw.StoreTells" = some 5 by kernel_rfl).symm.trans hf) |>.symm
  obtain rfl : fn = Tryz.f5 := (Option.some.inj (Tryz.func5.symm.trans hfn)).symm
  refine ⟨by kernel_rfl, fun j t ht => ?_⟩
  rw [Tryz.params5] at ht
  have hm : t = 22 ∨ t = 44 ∨ t = 45 := by simpa using Array.mem_of_getElem? ht
  rcases hm with rfl | rfl | rfl
  · exact (show Tryz.prog.wantsStandIn 22 = false by kernel_rfl)
  · exact (show Tryz.prog.wantsStandIn 44 = false by kernel_rfl)
  · exact (show Tryz.prog.wantsStandIn 45 = false by kernel_rfl)

/-- THE CARD -/
theorem proved : Rows.StoreTellsUptoCardSaid :=
  Claim7.holds_tied_plain_at .later [] _ _ _ _ saidU (fun _ h => by cases h) (by kernel_rfl) (fun _ h => by cases h) storeTellsUpto_row_tie rfl ⟨rfl, rfl⟩ (by kernel_rfl) rfl plain (by kernel_rfl)
#print axioms proved
end Go.Proofs.YtlfhcjhbnakamaaGreatDoor.StoreTells
