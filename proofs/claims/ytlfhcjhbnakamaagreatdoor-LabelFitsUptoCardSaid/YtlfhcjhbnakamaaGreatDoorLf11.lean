/-
  Two structs whose fields are integers and strings, held against each other.
-/
import Derived.Test.YtlfhcjhbnakamaaGreatDoorLf1
import Derived.Test.YtlfhcjhbnakamaaGreatDoorLf3
import Derived.Test.YtlfhcjhbnakamaaGreatDoorLf6
import Derived.Test.YtlfhcjhbnakamaaGreatDoorLf7
import Derived.Test.YtlfhcjhbnakamaaGreatDoorLf9
import Derived.Test.YtlfhcjhbnakamaaGreatDoorLf10
import Derived.Laws.StructEq
import Derived.Deep.QuietTactic
import Derived.BigQuiet
import Derived.IntWalk
import Derived.Test.YtlfhcjhbnakamaaGreatDoorRows
import Derived.JoinedCond
import Derived.Lib.SmallJoins
import Derived.ProofKit
import Derived.OpenShut
import Derived.Lib.LaidTab
import Derived.Shelf.Vars
import Derived.Test.YtlfhcjhbnakamaaGreatDoorCards
import Derived.Test.YtlfhcjhbnakamaaGreatDoorTie
import Derived.Deep.DeepHandedRow
namespace Go.Gh
open Go.RowKit
set_option linter.unusedVariables false
def mixTy : Option TypeDesc → Bool
  | some (.int _) => true
  | some .string => true
  | _ => false
/-- A struct type of k fields of one cell each, integers or strings. -/
def mixed (P : Program) (t : TypeId) (k : Nat) : Bool :=
  (match P.underlying t with
  | some (.struct fs) => fs.size == k && (List.range k).all fun j => match fs[j]? with
    | some f => f.name != "_" && f.offset == j && mixTy (P.underlying f.type)
    | none => false
  | _ => false) && !P.stoodInHeld t && !P.eqGuardType P.depth t
/-- A cell is of its field's kind. -/
def cellOk (d : Option TypeDesc) (v : Value) : Prop := match d, v with
  | some (.int k), .int k' _ => k = k'
  | some .string, .string _ => True
  | _, _ => False
def eqCell : Value → Value → Bool
  | .int _ a, .int _ b => a == b
  | .string a, .string b => a.toList == b.toList
  | _, _ => false
def eqCells : List Value → List Value → Bool
  | [], [] => true
  | a :: l, b :: m => eqCell a b && eqCells l m
  | _, _ => false
theorem mixed_of {P : Program} {t : TypeId} {k : Nat} (h : mixed P t k = true) : ∃ fs : Array Field, P.underlying t = some (.struct fs) ∧ fs.size = k ∧ P.stoodInHeld t = false ∧ P.eqGuardType P.depth t = false ∧
    ∀ (j : Nat) (f : Field), fs[j]? = some f → f.name ≠ "_" ∧ f.offset = j ∧ mixTy (P.underlying f.type) = true := by
  unfold mixed at h
  rw [Bool.and_eq_true, Bool.and_eq_true] at h
  obtain ⟨⟨h1, h2⟩, h3⟩ := h
  split at h1
  · rename_i fs hu
    rw [Bool.and_eq_true] at h1
    refine ⟨fs, hu, by simpa using h1.1, by simpa using h2, by simpa using h3, fun j f hj => ?_⟩
    have hk : fs.size = k := by simpa using h1.1
    have hjl : j < k := by rw [← hk]; exact (Array.getElem?_eq_some_iff.1 hj).1
    have := List.all_eq_true.1 h1.2 j (List.mem_range.2 hjl)
    rw [hj] at this
    simp only [Bool.and_eq_true] at this
    exact ⟨by simpa using this.1.1, by simpa using this.1.2, this.2⟩
  · simp at h1
theorem run_part_mix {P : Program} {w : World} {t : TypeId} (hu : mixTy (P.underlying t) = true) {xs : Array Value} {off : Nat} {v : Value} (hx : xs[off]? = some v) : (part t xs off).run P w = .ok v w := by
  cases h : P.underlying t with
  | none => rw [h] at hu; simp [mixTy] at hu
  | some d =>
    rw [h] at hu
    cases d <;> simp [mixTy] at hu <;> simp [part, isAgg, run_underlying h, hx]
theorem run_equal_cell {P : Program} {w : World} {t : TypeId} {d : Nat} {a b : Value} (ha : cellOk (P.underlying t) a) (hb : cellOk (P.underlying t) b) : (Op.equalIn (d + 1) t a b).run P w = .ok (eqCell a b) w := by
  cases h : P.underlying t with
  | none => rw [h] at ha; cases a <;> simp [cellOk] at ha
  | some D =>
    rw [h] at ha hb
    cases D <;> cases a <;> simp [cellOk] at ha <;> cases b <;> simp [cellOk] at hb
    · subst ha
      subst hb
      exact run_equalIn_int w d t _ _ _ _ h
    · exact run_equalIn_string w d t _ _ h
theorem run_eqFields_mix {P : Program} {w : World} {d : Nat} {l m : List Value} : ∀ (fs : List Field) (j : Nat), (∀ (i : Nat) (f : Field), fs[i]? = some f → f.name ≠ "_" ∧ f.offset = j + i ∧ mixTy (P.underlying f.type) = true) →
    (∀ (i : Nat) (f : Field) (v : Value), fs[i]? = some f → l[j + i]? = some v → cellOk (P.underlying f.type) v) → (∀ (i : Nat) (f : Field) (v : Value), fs[i]? = some f → m[j + i]? = some v → cellOk (P.underlying f.type) v) →
    l.length = j + fs.length → m.length = j + fs.length → (Op.eqFields (d + 1) l.toArray m.toArray fs).run P w = .ok (eqCells (l.drop j) (m.drop j)) w
  | [], j, h, _, _, hl, hm => by
    simp only [List.length_nil, Nat.add_zero] at hl hm
    rw [List.drop_of_length_le (by omega), List.drop_of_length_le (by omega)]
    simp [Op.eqFields, eqCells]
  | f :: fs, j, h, ca, cb, hl, hm => by
    obtain ⟨hn, ho, hu⟩ := h 0 f rfl
    rw [Nat.add_zero] at ho
    rw [List.length_cons] at hl hm
    have jl : j < l.length := by omega
    have jm : j < m.length := by omega
    have p1 : (part f.type l.toArray f.offset).run P w = .ok l[j] w := run_part_mix hu (by rw [ho]; simp [jl])
    have p2 : (part f.type m.toArray f.offset).run P w = .ok m[j] w := run_part_mix hu (by rw [ho]; simp [jm])
    have k1 := ca 0 f l[j] rfl (by rw [Nat.add_zero]; exact List.getElem?_eq_getElem jl)
    have k2 := cb 0 f m[j] rfl (by rw [Nat.add_zero]; exact List.getElem?_eq_getElem jm)
    have sh : ∀ i, j + 1 + i = j + (i + 1) := fun i => by omega
    have ih := run_eqFields_mix (P := P) (w := w) (d := d) (l := l) (m := m) fs (j + 1) (fun i g hg => by have := h (i + 1) g hg; rw [sh]; exact this) (fun i g v hg hv => ca (i + 1) g v hg (by rw [sh] at hv; exact hv)) (fun i g v hg hv => cb (i + 1) g v hg (by rw [sh] at hv; exact hv)) (by omega) (by omega)
    simp only [Op.eqFields, hn, ne_eq, not_false_eq_true, if_true, Sem.run_bind, p1, p2, Result.andThen_ok, run_equal_cell k1 k2]
    rw [List.drop_eq_getElem_cons jl, List.drop_eq_getElem_cons jm, eqCells]
    cases eqCell l[j] m[j] with
    | true => simpa using ih
    | false => simp
def fieldDesc (P : Program) (t : TypeId) (i : Nat) : Option TypeDesc := match P.underlying t with
  | some (.struct fs) => (fs[i]?).bind fun f => P.underlying f.type
  | _ => none
theorem fieldDesc_at {P : Program} {t : TypeId} {fs : Array Field} {i : Nat} {f : Field} (hu : P.underlying t = some (.struct fs)) (hf : fs[i]? = some f) : fieldDesc P t i = P.underlying f.type := by
  unfold fieldDesc
  rw [hu]
  simp only [hf, Option.bind_some]
/-- The cells are of the fields' kinds. -/
def rowOk (P : Program) (t : TypeId) (l : List Value) : Prop := ∀ (i : Nat) (v : Value), l[i]? = some v → cellOk (fieldDesc P t i) v
theorem run_equal_mix {P : Program} {w : World} {t : TypeId} {k : Nat} (ht : mixed P t k = true) {l m : List Value} (hl : l.length = k) (hm : m.length = k) (hlo : rowOk P t l) (hmo : rowOk P t m) :
    (Op.equalIn 10000 t (.agg l.toArray) (.agg m.toArray)).run P w = .ok (eqCells l m) w := by
  obtain ⟨fs, hu, hk, hs, _, hf⟩ := mixed_of ht
  have hfo : P.fieldsOf t = fs := by unfold Program.fieldsOf; rw [hu]
  rw [show (10000 : Nat) = 9999 + 1 from rfl, run_equalIn_struct w 9999 t _ _ (by rw [hfo]; exact hu) hs, hfo]
  have := run_eqFields_mix (P := P) (w := w) (d := 9998) (l := l) (m := m) fs.toList 0 (fun i f h => by rw [Nat.zero_add]; exact hf i f (by simpa using h)) (fun i f v h hv => by rw [← fieldDesc_at hu (by simpa using h)]; exact hlo i v (by rw [Nat.zero_add] at hv; exact hv)) (fun i f v h hv => by rw [← fieldDesc_at hu (by simpa using h)]; exact hmo i v (by rw [Nat.zero_add] at hv; exact hv)) (by simp; omega) (by simp; omega)
  simpa using this
theorem exec_neq_mix {P : Program} {ρ : Operand → Value} {o : Oper} {w : World} {t t' : TypeId} {x y : Operand} {k : Nat} (ho : o.op = .binOp .neq t x y t') (ht : mixed P t k = true) {l m : List Value} (hl : l.length = k) (hm : m.length = k) (hlo : rowOk P t l) (hmo : rowOk P t m)
    (hx : ρ x = .agg l.toArray) (hy : ρ y = .agg m.toArray) : (execOp ρ o).run P w = .ok (.value (.bool (!eqCells l m))) w := by
  obtain ⟨_, _, _, _, hg, _⟩ := mixed_of ht
  unfold execOp
  rw [ho]
  simp only [Sem.run_bind, hx, hy, run_eqGuard_agg w _ _ _ _ _ _ hg, Result.andThen_ok, run_neq_struct, run_equal_mix ht hl hm hlo hmo]
  rfl
theorem eqCells_self {l : List Value} (h : ∀ v ∈ l, (∃ k a, v = .int k a) ∨ ∃ s, v = .string s) : eqCells l l = true := by
  induction l with
  | nil => rfl
  | cons v l ih =>
    rw [eqCells, ih (fun u hu => h u (by simp [hu]))]
    rcases h v (by simp) with ⟨k, a, rfl⟩ | ⟨s, rfl⟩
    · simp [eqCell]
    · simp [eqCell]
end Go.Gh
/-
  Labels: the walks of SameLabels and SameMatches (PRINTED by mklb10.py).
-/
namespace Go.Gh
instance decLb : DecidableEq Lb := fun a b => if h : a.nm = b.nm ∧ a.vl = b.vl then isTrue (by cases a; cases b; simp_all) else isFalse (fun e => h (by rw [e]; exact ⟨rfl, rfl⟩))
instance decMt : DecidableEq Mt := fun a b => if h : a.kd = b.kd ∧ a.nm = b.nm ∧ a.vl = b.vl then isTrue (by cases a; cases b; simp_all) else isFalse (fun e => h (by rw [e]; exact ⟨rfl, rfl, rfl⟩))
theorem take_same {α : Type} {L M : List α} {k : Nat} {x : α} (h : L.take k = M.take k) (hx : L[k]? = some x) (hy : M[k]? = some x) : L.take (k + 1) = M.take (k + 1) := by
  rw [List.take_add_one, List.take_add_one, h, hx, hy]
theorem get_ne {α : Type} {L M : List α} {k : Nat} {x y : α} (hx : L[k]? = some x) (hy : M[k]? = some y) (h : ¬ x = y) : ¬ L = M := by
  intro e
  rw [e, hy] at hx
  injection hx with hx
  exact h hx.symm
end Go.Gh
namespace Go.Proofs.YtlfhcjhbnakamaaGreatDoor.Lab
open Go.RowKit Go.Gh
set_option linter.unusedVariables false
set_option linter.unusedSimpArgs false
theorem mixLb : mixed Tryz.prog 72 2 = true := by kernel_rfl
theorem mixMt : mixed Tryz.prog 70 3 = true := by kernel_rfl
theorem fdLb0 : fieldDesc Tryz.prog 72 0 = some .string := by kernel_rfl
theorem fdLb1 : fieldDesc Tryz.prog 72 1 = some .string := by kernel_rfl
theorem fdMt0 : fieldDesc Tryz.prog 70 0 = some (.int .i64) := by kernel_rfl
theorem fdMt1 : fieldDesc Tryz.prog 70 1 = some .string := by kernel_rfl
theorem fdMt2 : fieldDesc Tryz.prog 70 2 = some .string := by kernel_rfl
theorem row_ok_lb (a b : ByteArray) : rowOk Tryz.prog 72 [.string a, .string b] := by
  intro i v hv
  match i, hv with
  | 0, hv => (simp only [List.getElem?_cons_zero, List.getElem?_cons_succ, Option.some.injEq] at hv); subst hv; rw [fdLb0]; exact trivial
  | 1, hv => (simp only [List.getElem?_cons_zero, List.getElem?_cons_succ, Option.some.injEq] at hv); subst hv; rw [fdLb1]; exact trivial
theorem row_ok_mt (k : Int) (a b : ByteArray) : rowOk Tryz.prog 70 [.int .i64 k, .string a, .string b] := by
  intro i v hv
  match i, hv with
  | 0, hv => (simp only [List.getElem?_cons_zero, List.getElem?_cons_succ, Option.some.injEq] at hv); subst hv; rw [fdMt0]; exact rfl
  | 1, hv => (simp only [List.getElem?_cons_zero, List.getElem?_cons_succ, Option.some.injEq] at hv); subst hv; rw [fdMt1]; exact trivial
  | 2, hv => (simp only [List.getElem?_cons_zero, List.getElem?_cons_succ, Option.some.injEq] at hv); subst hv; rw [fdMt2]; exact trivial
theorem eq_lb (x y : Lb) : eqCells [.string (mkS x.nm), .string (mkS x.vl)] [.string (mkS y.nm), .string (mkS y.vl)] = decide (x = y) := by
  show (((mkS x.nm).toList == (mkS y.nm).toList) && (((mkS x.vl).toList == (mkS y.vl).toList) && true)) = _
  rw [mkS_list, mkS_list, mkS_list, mkS_list, Bool.and_true, Bool.eq_iff_iff]
  cases x; cases y
  simp
theorem eq_mt (x y : Mt) : eqCells [.int .i64 x.kd, .string (mkS x.nm), .string (mkS x.vl)] [.int .i64 y.kd, .string (mkS y.nm), .string (mkS y.vl)] = decide (x = y) := by
  show ((x.kd == y.kd) && (((mkS x.nm).toList == (mkS y.nm).toList) && (((mkS x.vl).toList == (mkS y.vl).toList) && true))) = _
  rw [mkS_list, mkS_list, mkS_list, mkS_list, Bool.and_true, Bool.eq_iff_iff]
  cases x; cases y
  simp
theorem ret_bool' {a b : Bool} (h : a = b) : Ending.returned (.bool a) = Ending.returned (.bool b) := by rw [h]
set_option maxHeartbeats 4000000 in
set_option maxRecDepth 100000 in
theorem samelb_any (v u : Value) (L M : List Lb) (w : World) (hs : Sp LbR 2 w v L) (ht : Sp LbR 2 w u M) : Calls Tryz.prog 13 #[v, u] w fun e w' => e = .returned (.bool (decide (L = M))) ∧ Below w.heap.size w w' := by
  obtain ⟨n, hn⟩ : ∃ n, L.length = n := ⟨_, rfl⟩
  obtain ⟨o, ho⟩ : ∃ n, M.length = n := ⟨_, rfl⟩
  obtain ⟨ao, c, rfl, hnc, hc⟩ := hs.shapeN hn
  obtain ⟨bo, d, rfl, hod, hd⟩ := ht.shapeN ho
  have HL := Lib.hid hn
  have HM := Lib.hid ho
  have HS := Lib.hid hs
  have HU := Lib.hid ht
  clear hs ht
  by_cases hno : n = o
  · subst hno
    clear hn ho
    go_enter Tryz.func13, Tryz.ntmps13
    go_wp2_with fail
    go_loopw [4, 5, 13] (fun r _ i wr => ∃ k : Nat, k ≤ n ∧ i = .int .i64 k ∧ r = .bool false ∧ Below w.heap.size w wr ∧ Hid (L.take k = M.take k)) (fun _ _ i _ => n - (intOf i).toNat)
    case atStart => exact ⟨0, by omega, rfl, rfl, Below.refl _ _, Lib.hid rfl⟩
    case round =>
      obtain ⟨k, hk, rfl, rfl, hbr, HE⟩ := hrel
      by_cases hlt : k < n
      · obtain ⟨x, hx⟩ : ∃ x, L[k]? = some x := ⟨_, List.getElem?_eq_getElem (by rw [HL.out]; exact hlt)⟩
        obtain ⟨y, hy⟩ : ∃ y, M[k]? = some y := ⟨_, List.getElem?_eq_getElem (by rw [HM.out]; exact hlt)⟩
        obtain ⟨b, off, cs, rfl, ⟨rfl, hl1, hl2⟩, _, hck⟩ := (HS.out.below lbR_mono hbr).get hx
        obtain ⟨b', off', cs', rfl, ⟨rfl, hm1, hm2⟩, _, hcj⟩ := (HU.out.below lbR_mono hbr).get hy
        have c0 := hck 0 _ rfl
        have e0 := hcj 0 _ rfl
        have c1 := hck 1 _ rfl
        have e1 := hcj 1 _ rfl
        rw [Nat.add_zero] at c0 e0
        have hq := eq_lb x y
        obtain ⟨nmx, hnmx⟩ : ∃ z, z = mkS x.nm := ⟨_, rfl⟩
        obtain ⟨vlx, hvlx⟩ : ∃ z, z = mkS x.vl := ⟨_, rfl⟩
        obtain ⟨nmy, hnmy⟩ : ∃ z, z = mkS y.nm := ⟨_, rfl⟩
        obtain ⟨vly, hvly⟩ : ∃ z, z = mkS y.vl := ⟨_, rfl⟩
        rw [← hnmx, ← hvlx, ← hnmy, ← hvly] at hq
        rw [← hnmx] at c0
        rw [← hvlx] at c1
        rw [← hnmy] at e0
        rw [← hvly] at e1
        have HQ := Lib.hid hq
        have HX := Lib.hid hx
        have HY := Lib.hid hy
        clear hnmx hvlx hnmy hvly hck hcj hx hy hq
        by_cases he : x = y
        · have HN : Hid (L.take (k + 1) = M.take (k + 1)) := Lib.hid (take_same HE.out HX.out (by rw [he]; exact HY.out))
          go_wp2_with fail
          refine wp_region_quiet_lit (by kernel_rfl) (by kernel_rfl) ?_
          repeat (go_big_quiet_step (fail))
          go_big_quiet_want
          refine quiet_of_run (.bool false) (fun w' => (exec_neq_mix (l := [.string nmx, .string vlx]) (m := [.string nmy, .string vly]) rfl mixLb rfl rfl (row_ok_lb _ _) (row_ok_lb _ _) rfl rfl).trans (by rw [HQ.out, decide_eq_true he]; rfl)) ?_
          go_big_quiet_on
          refine wpQuiet_nil ?_
          rintro _ ⟨nq, rfl⟩
          go_wp2
          go_roundw
          case rel => exact ⟨k + 1, by omega, by go_num, rfl, below_drewN hbr _, HN⟩
          case measure => simp [intOf]; omega
        · have HN : Hid (decide (L = M) = false) := Lib.hid (decide_eq_false (get_ne HX.out HY.out he))
          go_wp2_with fail
          refine wp_region_quiet_lit (by kernel_rfl) (by kernel_rfl) ?_
          repeat (go_big_quiet_step (fail))
          go_big_quiet_want
          refine quiet_of_run (.bool true) (fun w' => (exec_neq_mix (l := [.string nmx, .string vlx]) (m := [.string nmy, .string vly]) rfl mixLb rfl rfl (row_ok_lb _ _) (row_ok_lb _ _) rfl rfl).trans (by rw [HQ.out, decide_eq_false he]; rfl)) ?_
          go_big_quiet_on
          refine wpQuiet_nil ?_
          rintro _ ⟨nq, rfl⟩
          go_wp2
          go_ret
          exact ⟨ret_bool' HN.out.symm, below_drewN hbr _⟩
      · obtain rfl : k = n := by omega
        have HN : Hid (decide (L = M) = true) := Lib.hid (decide_eq_true (by
          have h := HE.out
          rwa [List.take_of_length_le (by rw [HL.out]; exact Nat.le_refl _), List.take_of_length_le (by rw [HM.out]; exact Nat.le_refl _)] at h))
        go_wp2_with fail
        go_ret
        exact ⟨ret_bool' HN.out.symm, hbr⟩
  · have HN : Hid (decide (L = M) = false) := Lib.hid (decide_eq_false (fun h => hno (by rw [← hn, ← ho, h])))
    have hne : ((n : Int) != (o : Int)) = true := by rw [bne_iff_ne]; omega
    clear hn ho
    go_enter Tryz.func13, Tryz.ntmps13
    go_wp2_with fail
    go_ret
    exact ⟨ret_bool' HN.out.symm, Below.refl _ _⟩
set_option maxHeartbeats 4000000 in
set_option maxRecDepth 100000 in
theorem samemt_any (v u : Value) (L M : List Mt) (w : World) (hs : Sp MtR 3 w v L) (ht : Sp MtR 3 w u M) : Calls Tryz.prog 30 #[v, u] w fun e w' => e = .returned (.bool (decide (L = M))) ∧ Below w.heap.size w w' := by
  obtain ⟨n, hn⟩ : ∃ n, L.length = n := ⟨_, rfl⟩
  obtain ⟨o, ho⟩ : ∃ n, M.length = n := ⟨_, rfl⟩
  obtain ⟨ao, c, rfl, hnc, hc⟩ := hs.shapeN hn
  obtain ⟨bo, d, rfl, hod, hd⟩ := ht.shapeN ho
  have HL := Lib.hid hn
  have HM := Lib.hid ho
  have HS := Lib.hid hs
  have HU := Lib.hid ht
  clear hs ht
  by_cases hno : n = o
  · subst hno
    clear hn ho
    go_enter Tryz.func30, Tryz.ntmps30
    go_wp2_with fail
    go_loopw [4, 5, 13] (fun r _ i wr => ∃ k : Nat, k ≤ n ∧ i = .int .i64 k ∧ r = .bool false ∧ Below w.heap.size w wr ∧ Hid (L.take k = M.take k)) (fun _ _ i _ => n - (intOf i).toNat)
    case atStart => exact ⟨0, by omega, rfl, rfl, Below.refl _ _, Lib.hid rfl⟩
    case round =>
      obtain ⟨k, hk, rfl, rfl, hbr, HE⟩ := hrel
      by_cases hlt : k < n
      · obtain ⟨x, hx⟩ : ∃ x, L[k]? = some x := ⟨_, List.getElem?_eq_getElem (by rw [HL.out]; exact hlt)⟩
        obtain ⟨y, hy⟩ : ∃ y, M[k]? = some y := ⟨_, List.getElem?_eq_getElem (by rw [HM.out]; exact hlt)⟩
        obtain ⟨b, off, cs, rfl, ⟨rfl, hl1, hl2, hl3, hl4⟩, _, hck⟩ := (HS.out.below mtR_mono hbr).get hx
        obtain ⟨b', off', cs', rfl, ⟨rfl, hm1, hm2, hm3, hm4⟩, _, hcj⟩ := (HU.out.below mtR_mono hbr).get hy
        have c0 := hck 0 _ rfl
        have e0 := hcj 0 _ rfl
        have c1 := hck 1 _ rfl
        have e1 := hcj 1 _ rfl
        have c2 := hck 2 _ rfl
        have e2 := hcj 2 _ rfl
        rw [Nat.add_zero] at c0 e0
        have hq := eq_mt x y
        obtain ⟨kdx, hkdx⟩ : ∃ z, z = x.kd := ⟨_, rfl⟩
        obtain ⟨nmx, hnmx⟩ : ∃ z, z = mkS x.nm := ⟨_, rfl⟩
        obtain ⟨vlx, hvlx⟩ : ∃ z, z = mkS x.vl := ⟨_, rfl⟩
        obtain ⟨kdy, hkdy⟩ : ∃ z, z = y.kd := ⟨_, rfl⟩
        obtain ⟨nmy, hnmy⟩ : ∃ z, z = mkS y.nm := ⟨_, rfl⟩
        obtain ⟨vly, hvly⟩ : ∃ z, z = mkS y.vl := ⟨_, rfl⟩
        rw [← hkdx, ← hnmx, ← hvlx, ← hkdy, ← hnmy, ← hvly] at hq
        rw [← hkdx] at c0
        rw [← hnmx] at c1
        rw [← hvlx] at c2
        rw [← hkdy] at e0
        rw [← hnmy] at e1
        rw [← hvly] at e2
        have HQ := Lib.hid hq
        have HX := Lib.hid hx
        have HY := Lib.hid hy
        clear hkdx hnmx hvlx hkdy hnmy hvly hck hcj hx hy hq
        by_cases he : x = y
        · have HN : Hid (L.take (k + 1) = M.take (k + 1)) := Lib.hid (take_same HE.out HX.out (by rw [he]; exact HY.out))
          go_wp2_with fail
          refine wp_region_quiet_lit (by kernel_rfl) (by kernel_rfl) ?_
          repeat (go_big_quiet_step (fail))
          go_big_quiet_want
          refine quiet_of_run (.bool false) (fun w' => (exec_neq_mix (l := [.int .i64 kdx, .string nmx, .string vlx]) (m := [.int .i64 kdy, .string nmy, .string vly]) rfl mixMt rfl rfl (row_ok_mt _ _ _) (row_ok_mt _ _ _) rfl rfl).trans (by rw [HQ.out, decide_eq_true he]; rfl)) ?_
          go_big_quiet_on
          refine wpQuiet_nil ?_
          rintro _ ⟨nq, rfl⟩
          go_wp2
          go_roundw
          case rel => exact ⟨k + 1, by omega, by go_num, rfl, below_drewN hbr _, HN⟩
          case measure => simp [intOf]; omega
        · have HN : Hid (decide (L = M) = false) := Lib.hid (decide_eq_false (get_ne HX.out HY.out he))
          go_wp2_with fail
          refine wp_region_quiet_lit (by kernel_rfl) (by kernel_rfl) ?_
          repeat (go_big_quiet_step (fail))
          go_big_quiet_want
          refine quiet_of_run (.bool true) (fun w' => (exec_neq_mix (l := [.int .i64 kdx, .string nmx, .string vlx]) (m := [.int .i64 kdy, .string nmy, .string vly]) rfl mixMt rfl rfl (row_ok_mt _ _ _) (row_ok_mt _ _ _) rfl rfl).trans (by rw [HQ.out, decide_eq_false he]; rfl)) ?_
          go_big_quiet_on
          refine wpQuiet_nil ?_
          rintro _ ⟨nq, rfl⟩
          go_wp2
          go_ret
          exact ⟨ret_bool' HN.out.symm, below_drewN hbr _⟩
      · obtain rfl : k = n := by omega
        have HN : Hid (decide (L = M) = true) := Lib.hid (decide_eq_true (by
          have h := HE.out
          rwa [List.take_of_length_le (by rw [HL.out]; exact Nat.le_refl _), List.take_of_length_le (by rw [HM.out]; exact Nat.le_refl _)] at h))
        go_wp2_with fail
        go_ret
        exact ⟨ret_bool' HN.out.symm, hbr⟩
  · have HN : Hid (decide (L = M) = false) := Lib.hid (decide_eq_false (fun h => hno (by rw [← hn, ← ho, h])))
    have hne : ((n : Int) != (o : Int)) = true := by rw [bne_iff_ne]; omega
    clear hn ho
    go_enter Tryz.func30, Tryz.ntmps30
    go_wp2_with fail
    go_ret
    exact ⟨ret_bool' HN.out.symm, Below.refl _ _⟩
end Go.Proofs.YtlfhcjhbnakamaaGreatDoor.Lab
/-
  What the bound on the bulk of the arguments gives, and arguments opened under it.
-/
namespace Go.Gh
open Go.RowKit Go.ChangeShapes Go.WideShapes Go.ChangeAt Go.Joins Go.Proofs.YtlfhcjhbnakamaaGreatDoor
set_option linter.unusedVariables false

theorem bulk_one {H : Type} (d : DataW H) : 1 ≤ Rows.uptoBulk d := by
  cases d with
  | lit l => cases l <;> simp [Rows.uptoBulk]
  | nil => simp [Rows.uptoBulk]
  | ptr d => simp [Rows.uptoBulk]
  | slice elems spare => simp [Rows.uptoBulk]
  | agg parts => simp [Rows.uptoBulk]
  | iface t d => simp [Rows.uptoBulk]
  | map entries => simp [Rows.uptoBulk]
  | held h => simp [Rows.uptoBulk]
theorem bulk_part {H : Type} {d : DataW H} {l : List (DataW H)} (h : d ∈ l) : Rows.uptoBulk d ≤ Rows.uptoBulkAll l := by
  induction l with
  | nil => cases h
  | cons x r ih =>
    simp only [Rows.uptoBulkAll]
    cases List.mem_cons.1 h with
    | inl e => subst e; omega
    | inr e => have := ih e; omega
theorem bulk_len {H : Type} (l : List (DataW H)) : l.length ≤ Rows.uptoBulkAll l := by
  induction l with
  | nil => simp [Rows.uptoBulkAll]
  | cons x r ih => have := bulk_one x; simp only [Rows.uptoBulkAll, List.length_cons]; omega
theorem bulk_at {H : Type} {l : List (DataW H)} (hk : Rows.uptoSmall H l = true) {d : DataW H} (h : d ∈ l) : Rows.uptoBulk d ≤ 1048576 := by
  have h1 : Rows.uptoBulkAll l ≤ 1048576 := of_decide_eq_true hk
  exact Nat.le_trans (bulk_part h) h1

section
variable {H : Type} {enc : TypeId × Value → H} {P : Program} {W : World} {base b0 : Nat} {r : Reach} {spare : Nat → Bool} {held : Bool} {t e : TypeId} {k : IntKind} {v : Value} {d : DataW H} {ps : List MemPlace}
/-- A slice of integers that came in, as 'Sl', and its reading. -/
theorem sl_ints_b {fuel : Nat} {x : DataW H × List MemPlace} (ht : P.underlying t = some (.slice e)) (he : P.underlying e = some (.int k)) (hc : P.cellsOf e = 1)
    (h : DataW.trod enc P W base spare held fuel t [v] = some x) (hb : Rows.uptoBulk x.1 ≤ 1048576) :
    ∃ (n : Nat) (zs : List Int), Sl W 1 v n (zs.map (Value.int k)) ∧ (∀ z ∈ zs, (Lit.int k z).wf = true) ∧ n ≤ 1048576 := by
  rcases open_ints ht he hc h with ⟨hcs, _⟩ | ⟨a, len, cap, zs, hcs, _, hl, hm, hz, hx, hcell, hwz⟩
  · obtain rfl : v = .slice none 0 0 := by simpa using hcs
    exact ⟨0, [], ⟨none, 0, rfl, Nat.le_refl _, Nat.zero_le _, fun _ => rfl, by simp, fun h => absurd h (Nat.lt_irrefl _)⟩, by simp, by simp⟩
  · obtain rfl : v = .slice (some a) len cap := by simpa using hcs
    have hlz : len ≤ zs.length := by rw [hz]; split <;> omega
    refine ⟨len, zs.take len, ⟨some a, cap, rfl, hl, hm, fun h => by simp at h, by simp; omega, fun hn => ?_⟩, fun z hz' => hwz z (List.mem_of_mem_take hz'), ?_⟩
    · have h0 := hcell 0 (by omega)
      obtain ⟨b, off, spot⟩ := a
      have hs := World.cell?_spot h0
      simp [Addr.add] at hs
      subst hs
      refine ⟨b, off, rfl, fun i u hu => ?_⟩
      have hi : i < len := by
        rcases Nat.lt_or_ge i len with h' | h'
        · exact h'
        · rw [List.getElem?_eq_none (by simp; omega)] at hu; simp at hu
      have := hcell i (by omega)
      rw [addr_add] at this
      rw [this]
      have hi' : i < zs.length := by omega
      simp [List.getElem?_map, hi, List.getElem?_eq_getElem hi'] at hu
      rw [← hu, List.getD_eq_getElem?_getD, List.getElem?_eq_getElem hi']
      rfl
    · rw [hx] at hb
      simp only [Rows.uptoBulk] at hb
      have h1 := bulk_len (lits (H := H) k (zs.take len))
      simp [lits] at h1 hb
      omega
theorem isIntB_of (ht : P.underlying t = some (.int k)) (hv : Value.okWide P W r b0 t v) (hd : DataW.Trod enc P W base spare held t v d ps) (hb : Rows.uptoBulk d ≤ 1048576) : IsInt k W v := by
  obtain ⟨n, h1, _, _, h2⟩ := open_int ht hv hd
  exact ⟨n, h1, h2⟩
end
end Go.Gh
/-
  Slices of whatever elements that came in, under the bound on the bulk.
-/
namespace Go.Gh
open Go.RowKit Go.ChangeShapes Go.WideShapes Go.ChangeAt Go.Joins Go.Deep Go.Proofs.YtlfhcjhbnakamaaGreatDoor
set_option linter.unusedVariables false
section
variable {α : Type} {H : Type} {enc : TypeId × Value → H} {P : Program} {W : World} {base : Nat} {spare : Nat → Bool} {held : Bool} {R : World → α → List Value → Prop}
theorem sp_ofB {t e : TypeId} {k fuel M : Nat} {v : Value} {x : DataW H × List MemPlace} (inh : Inhabited α) (ht : P.underlying t = some (.slice e)) (hk : P.cellsOf e = k) (hpos : 0 < k)
    (hel : ∀ fuel cs x, DataW.trod enc P W base spare held fuel e cs = some x → cs.length = k → Rows.uptoBulk x.1 ≤ M → ∃ a, R W a cs)
    (h : DataW.trod enc P W base spare held fuel t [v] = some x) (hbk : Rows.uptoBulk x.1 ≤ M) : ∃ L : List α, Sp R k W v L ∧ L.length ≤ M := by
  rcases open_slice ht h with ⟨hcs, _⟩ | ⟨a, len, cap, m, n, D, Pl, hcs, hb, hl, hm, hmm, hx, hi'⟩
  · obtain rfl : v = .slice none 0 0 := by simpa using hcs
    exact ⟨[], Sp.nil, Nat.zero_le _⟩
  · obtain rfl : v = .slice (some a) len cap := by simpa using hcs
    have hlm : len ≤ m := by rw [hmm]; split <;> omega
    rw [hx] at hbk
    simp only [Rows.uptoBulk] at hbk
    have hlen : len ≤ M := by
      have := bulk_len ((List.range len).map D)
      rw [List.length_map, List.length_range] at this
      omega
    have each : ∀ i, i < len → ∃ p : α × List Value, p.2.length = k ∧ R W p.1 p.2 ∧ ∀ j u, p.2[j]? = some u → W.cell? (a.add (i * k + j)) = some u := by
      intro i hlt
      obtain ⟨cs', hc, ht'⟩ := hi' i (by omega)
      rw [hk] at hc
      obtain ⟨_, hcl, hat⟩ := World.cells?_some hc
      have hbi : Rows.uptoBulk (D i) ≤ M := by
        have h1 : D i ∈ (List.range len).map D := List.mem_map.2 ⟨i, by simpa using hlt, rfl⟩
        have := bulk_part h1
        omega
      obtain ⟨y, hy⟩ := hel _ _ _ ht' hcl hbi
      refine ⟨(y, cs'), hcl, hy, fun j u hu => ?_⟩
      have hj : j < k := by
        have h9 : j < cs'.length := (List.getElem?_eq_some_iff.1 hu).1
        have h10 : cs'.length = k := hcl
        omega
      have h2 := hat j hj
      rw [add_add] at h2
      rw [h2]
      exact hu
    haveI : Inhabited (α × List Value) := ⟨(inh.default, [])⟩
    obtain ⟨Q, hQ⟩ := choose_lt each
    have hL : ((List.range len).map Q).length = len := by simp
    have hPK : PK k ((List.range len).map Q) := by
      intro p hp
      obtain ⟨i, hi, rfl⟩ := List.mem_map.1 hp
      exact (hQ i (by simpa using hi)).1
    refine ⟨((List.range len).map Q).map (·.1), ⟨(List.range len).map Q, rfl, hPK, ?_, some a, cap, ?_, ?_, hm, fun h => by simp at h, ?_, fun hn => ?_⟩, ?_⟩
    · intro p hp
      obtain ⟨i, hi, rfl⟩ := List.mem_map.1 hp
      exact (hQ i (by simpa using hi)).2.1
    · rw [List.length_map, hL]
    · rw [List.length_map, hL]; exact hl
    · rw [pc_len hPK, List.length_map, List.length_map, List.length_map]
    · rw [List.length_map, hL] at hn
      obtain ⟨u0, hu0⟩ : ∃ u, (Q 0).2[0]? = some u := ⟨_, List.getElem?_eq_getElem (by rw [(hQ 0 hn).1]; exact hpos)⟩
      have h0 := (hQ 0 hn).2.2 0 u0 hu0
      obtain ⟨b, off, spot⟩ := a
      have hs := World.cell?_spot h0
      simp [Addr.add] at hs
      subst hs
      refine ⟨b, off, rfl, fun i u hu => ?_⟩
      have hidx : i < len * k := by
        rcases Nat.lt_or_ge i (len * k) with h' | h'
        · exact h'
        · rw [List.getElem?_eq_none (by rw [pc_len hPK, hL]; exact h')] at hu; simp at hu
      have hq : i / k < len := Nat.div_lt_of_lt_mul (by rw [Nat.mul_comm]; exact hidx)
      have hr : i % k < k := Nat.mod_lt _ hpos
      have hdm : i / k * k + i % k = i := by rw [Nat.mul_comm]; exact Nat.div_add_mod i k
      have hp : ((List.range len).map Q)[i / k]? = some (Q (i / k)) := by simp [hq]
      rw [← hdm, pc_get hPK hp hr] at hu
      have := (hQ (i / k) hq).2.2 (i % k) u hu
      rw [addr_add, hdm] at this
      exact this
    · rw [List.length_map, hL]; exact hlen
/-- The bulk of a struct's part. -/
theorem bulk_field {xs : List (DataW H × List MemPlace)} {y : DataW H × List MemPlace} {i M : Nat} (h : Rows.uptoBulk (DataW.agg (xs.map (·.1))) ≤ M) (hy : xs[i]? = some y) : Rows.uptoBulk y.1 ≤ M := by
  simp only [Rows.uptoBulk] at h
  have h1 : y.1 ∈ xs.map (·.1) := List.mem_map.2 ⟨y, List.mem_of_getElem? hy, rfl⟩
  have := bulk_part h1
  omega
end
end Go.Gh
/-
  Labels, matches and texts that came in, under the bound on the bulk; the table of signs as the row's list lays it.
-/
namespace Go.Proofs.YtlfhcjhbnakamaaGreatDoor.Lab
open Go.RowKit Go.Gh Go.WideShapes Go.ChangeShapes Go.ChangeAt Go.Deep Go.Joins
set_option linter.unusedVariables false
set_option linter.unusedSimpArgs false
set_option maxRecDepth 100000
def IsLbs (w : World) (v : Value) : Prop := ∃ L : List Lb, Sp LbR 2 w v L
def IsMts (w : World) (v : Value) : Prop := ∃ L : List Mt, Sp MtR 3 w v L
def IsTx (v : Value) : Prop := ∃ l : By, v = .string (mkS l) ∧ l.length ≤ 1048576
theorem gSig : Tryz.prog.globalNamed "gaugehouse/label.signs" = some 0 := by kernel_rfl
theorem gSigType : (Tryz.prog.globals[0]?).map (·.type) = some 94 := by kernel_rfl
theorem cellsSig : Tryz.prog.cellsOf 94 = 5 := by kernel_rfl
theorem cellsStr : Tryz.prog.cellsOf 9 = 1 := by kernel_rfl
theorem cellsInt : Tryz.prog.cellsOf 3 = 1 := by kernel_rfl
theorem cellsLb : Tryz.prog.cellsOf 72 = 2 := by kernel_rfl
theorem cellsMt : Tryz.prog.cellsOf 70 = 3 := by kernel_rfl
section
variable {H : Type} {enc : TypeId × Value → H} {W : World} {base b0 : Nat} {r : Reach} {spare : Nat → Bool} {held : Bool} {v : Value} {d : DataW H} {ps : List MemPlace}
theorem str_cell {fuel : Nat} {c : Value} {x : DataW H × List MemPlace} {l : By} (h : DataW.trod enc Tryz.prog W base spare held fuel 9 [c] = some x) (hx : x.1 = .lit (.string l)) : c = .string (mkS l) := by
  obtain ⟨s, e, rfl, _⟩ := DataW.trod_string Tryz.underlying9 h
  simp only [DataW.lit.injEq, Lit.string.injEq] at hx
  have e' : c = .string s := by simpa using e
  rw [e', of_mkS s, hx]
theorem stab_of_laid {W : World} {rest : List (String × DataW Unit)} (h : laidMet Tryz.prog (("gaugehouse/label.signs", Rows.laid_gaugehouse_label_signs) :: rest) W) : STab W := by
  obtain ⟨ps, ⟨g, t, cs, fuel, p, q, hg, ht, hvar, hd, _, _⟩, _⟩ := h
  obtain rfl := Option.some.inj (gSig.symm.trans hg)
  obtain rfl := Option.some.inj (gSigType.symm.trans ht)
  obtain ⟨xs, m, rfl, hx, hlen, hn, hel⟩ := DataW.trod_array Tryz.underlying94 hd
  obtain ⟨l⟩ := cs
  rw [cellsSig] at hlen
  rw [cellsStr] at hel
  simp only [Prod.mk.injEq] at hx
  have hx1 := hx.1
  simp only [Rows.laid_gaugehouse_label_signs, DataW.agg.injEq] at hx1
  match xs, hn, hx1 with
  | [x0, x1, x2, x3, x4], _, hx1 =>
    simp only [List.map_cons, List.map_nil, List.cons.injEq, and_true] at hx1
    obtain ⟨e0, e1, e2, e3, e4⟩ := hx1
    match l, hlen with
    | [c0, c1, c2, c3, c4], _ =>
      have r0 := str_cell (hel 0 (by decide)) e0.symm
      have r1 := str_cell (hel 1 (by decide)) e1.symm
      have r2 := str_cell (hel 2 (by decide)) e2.symm
      have r3 := str_cell (hel 3 (by decide)) e3.symm
      have r4 := str_cell (hel 4 (by decide)) e4.symm
      subst r0 r1 r2 r3 r4
      intro k hk
      have c := World.var?_cell hg hvar k
      have : k = 0 ∨ k = 1 ∨ k = 2 ∨ k = 3 ∨ k = 4 := by omega
      rcases this with rfl | rfl | rfl | rfl | rfl <;> exact c
theorem str_len {fuel : Nat} {c : Value} {x : DataW H × List MemPlace} (h : DataW.trod enc Tryz.prog W base spare held fuel 9 [c] = some x) (hb : Rows.uptoBulk x.1 ≤ 1048576) : ∃ l : By, c = .string (mkS l) ∧ l.length ≤ 1048576 := by
  obtain ⟨s, e, rfl, _⟩ := DataW.trod_string Tryz.underlying9 h
  simp only [Rows.uptoBulk] at hb
  exact ⟨s.data.toList, by rw [← of_mkS]; simpa using e, by omega⟩
theorem trod_lbB {fuel : Nat} {c0 c1 : Value} {x : DataW H × List MemPlace} (h : DataW.trod enc Tryz.prog W base spare held fuel 72 [c0, c1] = some x) (hb : Rows.uptoBulk x.1 ≤ 1048576) : ∃ y : Lb, LbR W y [c0, c1] := by
  obtain ⟨ys, n2, _, rfl, _, hyl, hfy⟩ := DataW.trod_struct Tryz.underlying72 h
  have hys : ys.length = 2 := hyl
  have g0 : DataW.trod enc Tryz.prog W base spare held n2 9 (([c0, c1].drop 0).take (Tryz.prog.cellsOf 9)) = ys[0]? := hfy 0 _ rfl
  have g1 : DataW.trod enc Tryz.prog W base spare held n2 9 (([c0, c1].drop 1).take (Tryz.prog.cellsOf 9)) = ys[1]? := hfy 1 _ rfl
  rw [cellsStr] at g0 g1
  simp only [List.drop, List.take] at g0 g1
  rw [List.getElem?_eq_getElem (by rw [hys]; decide)] at g0 g1
  obtain ⟨l0, rfl, h0⟩ := str_len g0 (bulk_field hb (List.getElem?_eq_getElem (l := ys) (i := 0) (by rw [hys]; decide)))
  obtain ⟨l1, rfl, h1⟩ := str_len g1 (bulk_field hb (List.getElem?_eq_getElem (l := ys) (i := 1) (by rw [hys]; decide)))
  exact ⟨⟨l0, l1⟩, rfl, by show l0.length ≤ _; omega, by show l1.length ≤ _; omega⟩
theorem trod_mtB {fuel : Nat} {c0 c1 c2 : Value} {x : DataW H × List MemPlace} (h : DataW.trod enc Tryz.prog W base spare held fuel 70 [c0, c1, c2] = some x) (hb : Rows.uptoBulk x.1 ≤ 1048576) : ∃ y : Mt, MtR W y [c0, c1, c2] := by
  obtain ⟨ys, n2, _, rfl, _, hyl, hfy⟩ := DataW.trod_struct Tryz.underlying70 h
  have hys : ys.length = 3 := hyl
  have g0 : DataW.trod enc Tryz.prog W base spare held n2 3 (([c0, c1, c2].drop 0).take (Tryz.prog.cellsOf 3)) = ys[0]? := hfy 0 _ rfl
  have g1 : DataW.trod enc Tryz.prog W base spare held n2 9 (([c0, c1, c2].drop 1).take (Tryz.prog.cellsOf 9)) = ys[1]? := hfy 1 _ rfl
  have g2 : DataW.trod enc Tryz.prog W base spare held n2 9 (([c0, c1, c2].drop 2).take (Tryz.prog.cellsOf 9)) = ys[2]? := hfy 2 _ rfl
  rw [cellsInt] at g0
  rw [cellsStr] at g1 g2
  simp only [List.drop, List.take] at g0 g1 g2
  rw [List.getElem?_eq_getElem (by rw [hys]; decide)] at g0 g1 g2
  obtain ⟨z, e0, _, w0⟩ := DataW.trod_int Tryz.underlying3 g0
  have e0' : c0 = .int .i64 z := by simpa using e0
  obtain ⟨l1, rfl, h1⟩ := str_len g1 (bulk_field hb (List.getElem?_eq_getElem (l := ys) (i := 1) (by rw [hys]; decide)))
  obtain ⟨l2, rfl, h2⟩ := str_len g2 (bulk_field hb (List.getElem?_eq_getElem (l := ys) (i := 2) (by rw [hys]; decide)))
  have hw := wf_i64 w0
  exact ⟨⟨z, l1, l2⟩, by rw [e0'], by show l1.length ≤ _; omega, by show l2.length ≤ _; omega, hw.1, hw.2⟩
theorem isLbsB_of (hv : Value.okWide Tryz.prog W r b0 22 v) (hd : DataW.Trod enc Tryz.prog W base spare held 22 v d ps) (hb : Rows.uptoBulk d ≤ 1048576) : IsLbs W v := by
  obtain ⟨a0, len, cap, rfl⟩ := okWide_slice Tryz.underlying22 hv
  obtain ⟨fuel, hf⟩ := hd
  have hf' : DataW.trod enc Tryz.prog W base spare held fuel 22 [.slice a0 len cap] = some (d, ps) := by simpa [Value.cells] using hf
  obtain ⟨L, hL, _⟩ := sp_ofB (R := LbR) (M := 1048576) ⟨⟨[], []⟩⟩ Tryz.underlying22 cellsLb (by decide) (fun fuel cs x h1 h2 h3 => by
    match cs, h2 with
    | [c0, c1], _ => exact trod_lbB h1 h3) hf' hb
  exact ⟨L, hL⟩
theorem isMtsB_of (hv : Value.okWide Tryz.prog W r b0 34 v) (hd : DataW.Trod enc Tryz.prog W base spare held 34 v d ps) (hb : Rows.uptoBulk d ≤ 1048576) : IsMts W v := by
  obtain ⟨a0, len, cap, rfl⟩ := okWide_slice Tryz.underlying34 hv
  obtain ⟨fuel, hf⟩ := hd
  have hf' : DataW.trod enc Tryz.prog W base spare held fuel 34 [.slice a0 len cap] = some (d, ps) := by simpa [Value.cells] using hf
  obtain ⟨L, hL, _⟩ := sp_ofB (R := MtR) (M := 1048576) ⟨⟨0, [], []⟩⟩ Tryz.underlying34 cellsMt (by decide) (fun fuel cs x h1 h2 h3 => by
    match cs, h2 with
    | [c0, c1, c2], _ => exact trod_mtB h1 h3) hf' hb
  exact ⟨L, hL⟩
theorem isTxB_of (hv : Value.okWide Tryz.prog W r b0 9 v) (hd : DataW.Trod enc Tryz.prog W base spare held 9 v d ps) (hb : Rows.uptoBulk d ≤ 1048576) : IsTx v := by
  obtain ⟨s, rfl⟩ := okWide_string Tryz.underlying9 hv
  obtain ⟨fuel, hf⟩ := hd
  have hf' : DataW.trod enc Tryz.prog W base spare held fuel 9 [.string s] = some (d, ps) := by simpa [Value.cells] using hf
  obtain ⟨l, e, h⟩ := str_len hf' hb
  exact ⟨l, e, h⟩
end
end Go.Proofs.YtlfhcjhbnakamaaGreatDoor.Lab
/-
  'gaugehouselaw.LabelFits': the walk of the law.
-/
namespace Go.Proofs.YtlfhcjhbnakamaaGreatDoor.LabelFits
open Go.RowKit Go.Gh Go.Proofs.YtlfhcjhbnakamaaGreatDoor.Lab
set_option linter.unusedVariables false
set_option linter.unusedSimpArgs false
theorem dec_self (L : List Mt) : decide (L = L) = true := decide_eq_true rfl
set_option maxHeartbeats 16000000 in
set_option maxRecDepth 100000 in
theorem walk (v0 v1 v2 : Value) (w : World) (h0 : IsLbs w v0) (h1 : IsMts w v1) (h2 : IsTx v2) (hT : STab w) (hMT : MTab w) : Calls Tryz.prog 6 #[v0, v1, v2] w fun e w' => e = .returned (.bool true) ∧ Below w.heap.size w w' := by
  obtain ⟨L, hs⟩ := h0
  obtain ⟨M, ht⟩ := h1
  obtain ⟨l, rfl, hl⟩ := h2
  obtain ⟨ao, c, rfl, -, -⟩ := hs.shape
  obtain ⟨mo, mc, rfl, -, -⟩ := ht.shape
  obtain ⟨n, hn⟩ : ∃ n, L.length = n := ⟨_, rfl⟩
  obtain ⟨q, hq⟩ : ∃ n, M.length = n := ⟨_, rfl⟩
  rw [hn] at hs ⊢
  rw [hq] at ht ⊢
  obtain ⟨E1, hE1⟩ : ∃ F, labelF L = F := ⟨_, rfl⟩
  obtain ⟨E2, hE2⟩ : ∃ F, matchF M = F := ⟨_, rfl⟩
  obtain ⟨B, hB⟩ : ∃ F, fitsB L M = F := ⟨_, rfl⟩
  have HFI := Lib.hid (fits_any _ _ L M w hs ht hMT)
  have HTX := Lib.hid (fun W (hb : Below w.heap.size w W) => mtt_any _ M W (ht.below mtR_mono hb) (hT.below hb))
  have HRM := Lib.hid (fun W (hb : Below w.heap.size w W) => rm_any l W hl (hT.below hb))
  have HMF := Lib.hid (fun W (hb : Below w.heap.size w W) => mtfault_any _ M W (ht.below mtR_mono hb))
  have HMX := Lib.hid (fun W (hb : Below w.heap.size w W) (h : E2 = 0) => mtext_any _ M W (ht.below mtR_mono hb) (hE2.trans h))
  have HMA := Lib.hid (fun W => mats_any l W hl)
  have HLF := Lib.hid (fun W (hb : Below w.heap.size w W) => lbfault_any _ L W (hs.below lbR_mono hb))
  have HFA := Lib.hid (fun W (hb : Below w.heap.size w W) (h : E1 = 0) (h' : E2 = 0) => fitsall_any _ _ L M W (hs.below lbR_mono hb) (ht.below mtR_mono hb) (hE1.trans h) (hE2.trans h'))
  rw [hE1] at HLF
  rw [hE2] at HTX HMF
  rw [hB] at HFA
  have hfr : fitsR L M = if E1 ≠ 0 then (false, E1) else if E2 ≠ 0 then (false, E2) else (B, 0) := by
    unfold fitsR
    rw [hE1, hE2, hB]
  obtain ⟨R1, R2, hR⟩ : ∃ a b, fitsR L M = (a, b) := ⟨_, _, rfl⟩
  rw [hR] at HFI hfr
  have HFR := Lib.hid hfr
  obtain ⟨X, hX⟩ : ∃ X, rmF l = X := ⟨_, rfl⟩
  obtain ⟨Y, hY⟩ : ∃ X, maF l = X := ⟨_, rfl⟩
  rw [hX] at HRM
  rw [hY] at HMA
  have HXY : Hid ((∃ ms, Y = some (ms, []) ∧ X = some ms) ∨ ((∀ ms, Y ≠ some (ms, [])) ∧ X = none)) := Lib.hid (by
    by_cases hm : ∃ ms, Y = some (ms, [])
    · obtain ⟨ms, rfl⟩ := hm
      exact Or.inl ⟨ms, rfl, by rw [← hX]; exact rm_ma_some hY⟩
    · refine Or.inr ⟨fun ms e => hm ⟨ms, e⟩, ?_⟩
      rw [← hX]
      exact rm_ma_none (fun ms e => hm ⟨ms, by rw [← hY]; exact e⟩))
  generalize mkS l = S at *
  obtain ⟨T, hT2⟩ : ∃ X, mkS (textM M) = X := ⟨_, rfl⟩
  rw [hT2] at HMX
  obtain ⟨T0, hT0⟩ : ∃ X, mkS (if E2 = 0 then textM M else []) = X := ⟨_, rfl⟩
  have HTX2 : Hid (∀ W (hb : Below w.heap.size w W), Calls Tryz.prog 25 #[.slice mo q mc] W fun e w' => e = .returned (.tuple #[.string T0, .int .i64 E2]) ∧ Below W.heap.size W w') := Lib.hid (fun W hb => by
    have h := HTX.out W hb
    unfold txP at h
    rw [hT0] at h
    exact h)
  have hff : (E2 != E2) = false := by simp
  have htt : (T.toList == T.toList) = true := by simp
  have HT02 := Lib.hid hT0
  have HT22 := Lib.hid hT2
  clear hn hq hs ht hMT hT hE1 hE2 hB hfr hR hX hY hl HTX hT0 hT2
  go_enter Tryz.func6, Tryz.ntmps6
  go_wp2_with (first
    | (go_at_call 24; refine HFI.out.mono ?_; rintro e w1 ⟨rfl, hb1⟩; have HB1 := Lib.hid hb1; clear hb1)
    | (go_at_call 25; refine (HTX2.out w1 HB1.out).mono ?_; rintro e w2 ⟨rfl, hb2⟩; have HB2 := Lib.hid (HB1.out.trans (hb2.mono HB1.out.size)); clear hb2))
  refine (HRM.out w2 HB2.out).mono ?_
  intro e w3 hrd
  obtain ⟨hb3, hrd⟩ := hrd
  have HB3 := Lib.hid (HB2.out.trans (hb3.mono HB2.out.size))
  obtain ⟨no, nn, nc, ge, rfl, HM⟩ : ∃ no nn nc ge, e = .returned (.tuple #[.slice no nn nc, .int .i64 ge]) ∧ Hid ((X = none ∧ nn = 0 ∧ ge = 4) ∨ ∃ ls, X = some ls ∧ ge = 0 ∧ Sp MtR 3 w3 (.slice no nn nc) ls) := by
    cases X with
    | none => exact ⟨none, 0, 0, 4, hrd, Lib.hid (Or.inl ⟨rfl, rfl, rfl⟩)⟩
    | some ls =>
      obtain ⟨v, rfl, ho⟩ := hrd
      obtain ⟨ao2, c2, rfl, -, -⟩ := ho.sp.shape
      exact ⟨ao2, _, c2, 0, rfl, Lib.hid (Or.inr ⟨ls, rfl, rfl, ho.sp⟩)⟩
  clear hb3 hrd
  go_upto_region 5 with (go_at_call 27; refine (HMF.out w3 HB3.out).mono ?_; rintro e w4 ⟨rfl, hb4⟩; have HB4 := Lib.hid (HB3.out.trans (hb4.mono HB3.out.size)); have HB34 := Lib.hid hb4; clear hb4)
  go_cut [56] (fun t wx => t = .bool false ∧ Hid (Below w3.heap.size w3 wx))
  case first =>
    by_cases hz : E2 = 0
    · subst hz
      have e0 : T0 = T := by rw [← HT02.out, ← HT22.out, if_pos rfl]
      subst e0
      have HMX0 := Lib.hid (fun W hb => HMX.out W hb rfl)
      clear HMX HFA
      go_wp2_with (first
        | (go_at_call 28; refine (HMX0.out w4 HB4.out).mono ?_; rintro e w5 ⟨rfl, hb5⟩; have HB45 := Lib.hid hb5; clear hb5))
      go_meet
      case rel => exact ⟨by rfl, Lib.hid (HB34.out.trans (HB45.out.mono HB34.out.size))⟩
    · have e0 : T0 = ⟨#[]⟩ := by rw [← HT02.out, if_neg hz]; rfl
      subst e0
      have t1 : (E2 != 0) = true := by rw [bne_iff_ne]; exact hz
      have t2 : (E2 == 0) = false := beq_eq_false_iff_ne.2 hz
      clear hz
      go_wp2_with fail
      go_meet
      case rel => exact ⟨by rfl, HB34⟩
  case rest =>
    obtain ⟨rfl, HBC⟩ := hcut
    have HBW := Lib.hid (HB3.out.trans (HBC.out.mono HB3.out.size))
    have HMC := Lib.hid (HMA.out wc)
    obtain ⟨wD, hwD⟩ : ∃ x, x = wc := ⟨_, rfl⟩
    subst hwD
    have HMC2 : Hid (Calls Tryz.prog 29 #[.string S] wD fun e w' => Below wD.heap.size wD w' ∧ ∃ ao n c Z ok, e = .returned (.tuple #[.slice ao n c, .string Z, .bool ok]) ∧ Hid ((ok = false ∧ Y = none) ∨ ∃ ms z, ok = true ∧ Z = mkS z ∧ Y = some (ms, z) ∧ Sp MtR 3 w' (.slice ao n c) ms)) := Lib.hid (HMC.out.mono (fun e w' h => by
      obtain ⟨hb, h⟩ := h
      refine ⟨hb, ?_⟩
      cases Y with
      | none => exact ⟨_, _, _, _, _, h, Lib.hid (Or.inl ⟨rfl, rfl⟩)⟩
      | some mz =>
        obtain ⟨ms, z⟩ := mz
        obtain ⟨v, rfl, ho⟩ := h
        obtain ⟨ao2, c2, rfl, -, -⟩ := ho.sp.shape
        exact ⟨_, _, _, _, _, rfl, Lib.hid (Or.inr ⟨ms, z, rfl, rfl, rfl, ho.sp⟩)⟩))
    clear HMC HMA
    go_upto_region 8 with (go_at_call 29; refine HMC2.out.mono ?_; rintro e w6 ⟨hb6, bo, bn, bc, Z, ok, rfl, HY⟩; have HB6 := Lib.hid hb6; clear hb6)
    have HB36 := Lib.hid (HBC.out.trans (HB6.out.mono HBC.out.size))
    go_cut [67] (fun t wx => t = .bool X.isSome ∧ wx = w6)
    case first =>
      rcases HXY.out with ⟨ms, hY1, hX1⟩ | ⟨hY1, hX1⟩
      · rcases HY.out with ⟨rfl, hy2⟩ | ⟨ms2, z, rfl, rfl, hy2, -⟩
        · rw [hy2] at hY1
          simp at hY1
        · rw [hy2] at hY1
          injection hY1 with hY1
          injection hY1 with h1 h2
          subst h2
          have e0 : mkS ([] : By) = ⟨#[]⟩ := rfl
          have hxs : X.isSome = true := by rw [hX1]; rfl
          simp only [e0, hxs] at *
          clear hy2 hX1
          go_wp2_with fail
          go_meet
          case rel => exact ⟨rfl, rfl⟩
      · have hxs : X.isSome = false := by rw [hX1]; rfl
        rcases HY.out with ⟨rfl, hy2⟩ | ⟨ms2, z, rfl, rfl, hy2, -⟩
        · have HXS := Lib.hid hxs
          clear hX1 hxs hy2 hY1
          go_wp2_with fail
          go_meet
          case rel => exact ⟨by rw [HXS.out], rfl⟩
        · have hz : z ≠ [] := fun e => hY1 ms2 (by rw [hy2, e])
          obtain ⟨f1, f2⟩ := tl_ne hz
          have HXS := Lib.hid hxs
          generalize mkS z = ZZ at *
          clear hX1 hxs hy2 hz hY1
          go_wp2_with fail
          go_meet
          case rel => exact ⟨by rw [HXS.out], rfl⟩
    case rest =>
    obtain ⟨rfl, hwc⟩ := hcut
    have hwc := hwc.symm
    subst hwc
    have HB6W := Lib.hid (HBW.out.trans (HB6.out.mono HBW.out.size))
    go_upto_if 67 with (fail)
    go_cut [] (fun wx => Hid (Below w6.heap.size w6 wx))
    case first =>
      rcases HM.out with ⟨hX1, rfl, rfl⟩ | ⟨ls, hX1, rfl, hsp⟩
      · have hxs : X.isSome = false := by rw [hX1]; rfl
        rw [hxs]
        clear hX1 hxs
        go_wp2_with fail
        go_meet
        case rel => exact Lib.hid (Below.refl _ _)
      · have hxs : X.isSome = true := by rw [hX1]; rfl
        have HK : Hid (ok = true ∧ Sp MtR 3 w6 (.slice bo bn bc) ls) := Lib.hid (by
          rcases HXY.out with ⟨ms, hY1, hX2⟩ | ⟨hY1, hX2⟩
          · rcases HY.out with ⟨rfl, hy2⟩ | ⟨ms2, z, rfl, rfl, hy2, hsp2⟩
            · rw [hy2] at hY1
              simp at hY1
            · rw [hy2] at hY1
              injection hY1 with hY1
              injection hY1 with h1 h2
              rw [hX1] at hX2
              injection hX2 with h3
              rw [h3, ← h1]
              exact ⟨rfl, hsp2⟩
          · rw [hX1] at hX2
            simp at hX2)
        have HSA := Lib.hid (samemt_any _ _ ls ls w6 (hsp.below mtR_mono HB36.out) HK.out.2)
        rw [dec_self] at HSA
        rw [hxs]
        clear hX1 hxs hsp
        go_wp2_with (go_at_call 30; refine HSA.out.mono ?_; rintro e w7 ⟨rfl, hb7⟩; have HB7 := Lib.hid hb7; clear hb7)
        go_meet
        case rel => exact HB7
    case rest =>
    have HBC2 := Lib.hid (HB6W.out.trans (hcut.out.mono HB6W.out.size))
    have HLFC := Lib.hid (HLF.out wc HBC2.out)
    by_cases hz1 : E1 = 0
    case neg =>
      have t1 : (E1 != 0) = true := by rw [bne_iff_ne]; exact hz1
      have HRR : Hid (R1 = false ∧ R2 = E1) := Lib.hid (by
        have h := HFR.out
        rw [if_pos hz1] at h
        injection h with h1 h2
        exact ⟨h1, h2⟩)
      obtain ⟨hr1, hr2⟩ := HRR.out
      have hee : (E1 == E1) = true := by simp
      subst hr1
      subst hr2
      clear hz1
      go_wp2_with (go_at_call 9; refine HLFC.out.mono ?_; rintro e w8 ⟨rfl, hb8⟩; have HB8 := Lib.hid hb8; clear hb8)
      go_ret
      exact ⟨by rfl, HBC2.out.trans (HB8.out.mono HBC2.out.size)⟩
    subst hz1
    by_cases hz2 : E2 = 0
    case neg =>
      have t1 : (E2 != 0) = true := by rw [bne_iff_ne]; exact hz2
      have HRR : Hid (R1 = false ∧ R2 = E2) := Lib.hid (by
        have h := HFR.out
        rw [if_neg (by simp), if_pos hz2] at h
        injection h with h1 h2
        exact ⟨h1, h2⟩)
      obtain ⟨hr1, hr2⟩ := HRR.out
      have hee : (E2 == E2) = true := by simp
      subst hr1
      subst hr2
      clear hz2 HFA HMX
      go_wp2_with (go_at_call 9; refine HLFC.out.mono ?_; rintro e w8 ⟨rfl, hb8⟩; have HB8 := Lib.hid hb8; clear hb8)
      go_ret
      exact ⟨by rfl, HBC2.out.trans (HB8.out.mono HBC2.out.size)⟩
    subst hz2
    have HRR : Hid (R1 = B ∧ R2 = 0) := Lib.hid (by
      have h := HFR.out
      rw [if_neg (by simp), if_neg (by simp)] at h
      injection h with h1 h2
      exact ⟨h1, h2⟩)
    obtain ⟨hr1, hr2⟩ := HRR.out
    have hee : (B == B) = true := by simp
    subst hr1
    subst hr2
    have HFA0 := Lib.hid (fun W hb => HFA.out W hb rfl rfl)
    clear HFA HMX
    go_wp2_with (first
      | (go_at_call 9; refine HLFC.out.mono ?_; rintro e w8 ⟨rfl, hb8⟩; have HB8 := Lib.hid (HBC2.out.trans (hb8.mono HBC2.out.size)); clear hb8)
      | (go_at_call 31; refine (HFA0.out w8 HB8.out).mono ?_; rintro e w9 ⟨rfl, hb9⟩; have HB9 := Lib.hid (HB8.out.trans (hb9.mono HB8.out.size)); clear hb9))
    go_ret
    exact ⟨by rfl, HB9.out⟩
end Go.Proofs.YtlfhcjhbnakamaaGreatDoor.LabelFits
/-
  The library's variable holds some number, in a world that is as the start left it.
-/
namespace Go.Proofs.YtlfhcjhbnakamaaGreatDoor.Lab
open Go.RowKit Go.Gh
set_option maxRecDepth 100000
theorem mtab_of_shaped {W : World} (h : W.ShapedOpen Tryz.prog) : MTab W :=
  Go.Proofs.cell_of_shapedOpen_int (zero := #[.int .i64 0]) (t := 3) h (of_decide_eq_true (by kernel_rfl)) (by kernel_rfl) rfl (by kernel_rfl) (by kernel_rfl) Tryz.underlying3
end Go.Proofs.YtlfhcjhbnakamaaGreatDoor.Lab
/-
  'gaugehouselaw.LabelFits' returns true, whatever is handed in of bulk at most 1048576 (the given second form's bound), and its arguments read behind the call as they read before; the listed tables as the program's text lays them: THE ROW and THE TIED CARD.
-/
namespace Go.Proofs.YtlfhcjhbnakamaaGreatDoor.LabelFits
open Go.RowKit Go.ChangeShapes Go.WideShapes Go.ChangeAt Go.Gh Go.Proofs.YtlfhcjhbnakamaaGreatDoor.Lab
set_option linter.unusedVariables false
set_option linter.unusedSimpArgs false
theorem own : ownKnob Tryz.prog.godebug = none := by kernel_rfl
theorem laidOut : laidOutB Tryz.prog = true := by kernel_rfl
set_option maxRecDepth 100000 in
theorem contract (H : Type) (enc : TypeId × Value → H) (W : World) (base : Nat) (args : Array Value) (ds gs : List (DataW H)) (before : List MemPlace)
    (hval : ∀ (j : Nat) t v, Tryz.f6.params[j]? = some t → args[j]? = some v → Value.okWide Tryz.prog W .any base t v)
    (hW : DataW.Whole enc Tryz.prog Tryz.f6.params.toList Rows.labelFitsSpec.vars false W args.toList ds gs before)
    (hk : Rows.uptoSmall H (ds ++ gs) = true)
    (hL : laidMetH Tryz.prog Rows.labelFitsUptoRow.laid W) (hSh : W.ShapedOpen Tryz.prog) :
    Calls Tryz.prog 6 args W fun e W' => ∃ v, e = .returned v ∧ Rows.labelFitsSpec.post enc Tryz.prog Tryz.f6 false true false false W args v W' := by
  have hW' := hW
  obtain ⟨p, q, hA0, hV, rfl, hfz, hnd⟩ := hW
  have hA : DataW.TrodAll enc Tryz.prog W 0 (fun _ => true) true Tryz.f6.params.toList args.toList ds p := hA0
  rw [Tryz.params6] at hA hval
  obtain ⟨v0, vs0, d0, ds0, p0, q0, hargs, rfl, rfl, h0, r0⟩ := trodAll_cons hA
  obtain ⟨v1, vs1, d1, ds1, p1, q1, rfl, rfl, rfl, h1, r1⟩ := trodAll_cons r0
  obtain ⟨v2, vs2, d2, ds2, p2, q2, rfl, rfl, rfl, h2, r2⟩ := trodAll_cons r1
  obtain ⟨rfl, rfl, rfl⟩ := trodAll_nil r2
  obtain rfl : args = #[v0, v1, v2] := by cases args; simp_all
  obtain ⟨rfl, rfl⟩ := trodVars_none hV
  have u0 := (isLbsB_of (hval 0 _ v0 rfl rfl) h0 (bulk_at hk (by simp)))
  have u1 := (isMtsB_of (hval 1 _ v1 rfl rfl) h1 (bulk_at hk (by simp)))
  have u2 := (isTxB_of (hval 2 _ v2 rfl rfl) h2 (bulk_at hk (by simp)))
  clear hA0
  refine (walk v0 v1 v2 W u0 u1 u2 (stab_of_laid hL) (mtab_of_shaped hSh)).mono fun e W' ⟨he, bel⟩ => ?_
  subst he
  exact ⟨_, rfl, _, _, _, [], _, [], hW', trodAll_mk1 (shut_bool Tryz.underlying4 _), (trodAll_cons_mk (Below.trod laidOut (by kernel_rfl) (of_decide_eq_true (by kernel_rfl)) h0 bel (trod_lt' h0)) (trodAll_cons_mk (Below.trod laidOut (by kernel_rfl) (of_decide_eq_true (by kernel_rfl)) h1 bel (trod_lt' h1)) (trodAll_cons_mk (Below.trod laidOut (by kernel_rfl) (of_decide_eq_true (by kernel_rfl)) h2 bel (trod_lt' h2)) trodAll_mk0))), rfl, bel.frame _, fun h => by cases h⟩

/-- A world for the witness: the settled one, the tables' blocks holding what their initialisers lay. -/
noncomputable def laidWorld (os : Os) : World :=
  { World.holding Tryz.prog os ⟨#[], #[], []⟩ with heap := ((World.holding Tryz.prog os ⟨#[], #[], []⟩).heap).modify 0 fun
      | .cells _ t frozen => .cells #[.string ⟨#[]⟩, .string ⟨#[61]⟩, .string ⟨#[33, 61]⟩, .string ⟨#[61, 94]⟩, .string ⟨#[61, 126]⟩] t frozen
      | o => o }
theorem laid_met (os : Os) : laidMet Tryz.prog Rows.labelFitsUptoRow.laid ((laidWorld os).forCall (fun _ _ => 0) ⟨#[], #[.slice none 0 0, .slice none 0 0, .string ⟨#[]⟩], []⟩).memory :=
  laidMet_of_run' 8 (by kernel_rfl) (by kernel_rfl)
theorem reads (os : Os) {H : Type} (enc : TypeId × Value → H) : ∃ places, DataW.whole enc Tryz.prog ((laidWorld os).forCall (fun _ _ => 0) ⟨#[], #[.slice none 0 0, .slice none 0 0, .string ⟨#[]⟩], []⟩).memory Tryz.f6.params.toList Rows.labelFitsSpec.vars false #[Value.slice none 0 0, .slice none 0 0, .string ⟨#[]⟩].toList 8 = some ([.nil, .nil, .lit (.string [])], [], places) :=
  ⟨[], by kernel_rfl⟩

set_option maxRecDepth 100000 in
theorem lifted (os : Os) (started : os.Started) (H : Type) (enc : TypeId × Value → H) (F : Stop.Interp) :
    ReturnsInHanded {} Tryz.checked os 6 .any ((Rows.OpenSpec.upto Rows.labelFitsSpec).preRow enc Tryz.prog Tryz.f6 Rows.labelFitsUptoRow.domain false Rows.labelFitsUptoRow.laid) (((Rows.OpenSpec.upto Rows.labelFitsSpec).at F).post enc Tryz.prog Tryz.f6 false true false false) := by
  obtain ⟨places, hx⟩ := reads os enc
  refine returnsInHanded_of_row (C := Tryz.checked) (s := Rows.OpenSpec.upto Rows.labelFitsSpec) own started (by kernel_rfl) Tryz.func6
    (witness_row_at (enc := enc) (C := Tryz.checked) false (laidWorld os) #[.slice none 0 0, .slice none 0 0, .string ⟨#[]⟩] rfl (by kernel_rfl) (by kernel_rfl) (by kernel_rfl)
      (OpenSpec.preRow_of_cond 8 hx (by kernel_rfl) (fun k hk => by cases hk; kernel_rfl) (by kernel_rfl) (laid_met os))) ?_
  intro W base args ds gs before hval hW _ hcond _ hL hSh _
  exact contract H enc W base args ds gs before hval hW (hcond _ rfl) hL hSh

theorem saidU : Rows.LabelFitsUptoSaid :=
  OpenClaim.holds_of_cond 6 Tryz.f6 rfl rfl rfl rfl rfl rfl rfl ⟨rfl, rfl, rfl, rfl, rfl⟩ rfl rfl rfl rfl rfl (by kernel_rfl) Tryz.func6 (by kernel_rfl)
    (of_decide_eq_true (by kernel_rfl)) (by unfold Func.isWrapper; first | (rw [if_pos (by decide +kernel)]; kernel_rfl) | (rw [if_neg (by decide +kernel)]; exact ⟨rfl, rfl⟩))
    (fun os started H enc _ F => by rw [OpenClaim.pre_eq_preRow]; exact lifted os started H enc F)

/-- No parameter wants a stand-in; the program's own looks are on. -/
theorem plain (f : FuncId) (fn : Func) (hf : Tryz.pinned.checked.prog.funcNamed "gaugehouse/gaugehouselaw.LabelFits" = some f) (hfn : Tryz.pinned.checked.prog.funcs[f]? = some fn) :
    true = Tryz.pinned.checked.prog.looks [] ∧ ∀ (j : Nat) t, fn.params[j]? = some t → Tryz.pinned.checked.prog.wantsStandIn t = false := by
  obtain rfl : f = 6 := Option.some.inj ((show Tryz.prog.funcNamed "gaugehouse/gaugehouselaw.LabelFits" = some 6 by kernel_rfl).symm.trans hf) |>.symm
  obtain rfl : fn = Tryz.f6 := (Option.some.inj (Tryz.func6.symm.trans hfn)).symm
  refine ⟨by kernel_rfl, fun j t ht => ?_⟩
  rw [Tryz.params6] at ht
  have hm : t = 22 ∨ t = 34 ∨ t = 9 := by simpa using Array.mem_of_getElem? ht
  rcases hm with rfl | rfl | rfl
  · exact (show Tryz.prog.wantsStandIn 22 = false by kernel_rfl)
  · exact (show Tryz.prog.wantsStandIn 34 = false by kernel_rfl)
  · exact (show Tryz.prog.wantsStandIn 9 = false by kernel_rfl)

/-- THE CARD -/
theorem proved : Rows.LabelFitsUptoCardSaid :=
  Claim7.holds_tied_plain_at .later [] _ _ _ _ saidU (fun _ h => by cases h) (by kernel_rfl) (fun _ h => by cases h) labelFitsUpto_row_tie rfl ⟨rfl, rfl⟩ (by kernel_rfl) rfl plain (by kernel_rfl)
#print axioms proved
end Go.Proofs.YtlfhcjhbnakamaaGreatDoor.LabelFits
