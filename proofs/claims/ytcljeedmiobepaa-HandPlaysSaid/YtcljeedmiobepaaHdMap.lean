/-
  A set of numbers as a map to true.
-/
import Derived.Test.YtcljeedmiobepaaHdLaw
import Derived.Test.YtcljeedmiobepaaMapLib
import Derived.Maps.Views
import Derived.Maps.RangeWalk
namespace Go.Gh
open Go.RowKit Go.WideShapes Go.Maps Go.WideElems
set_option linter.unusedVariables false
abbrev DU := DataW Unit
def kI (x : Int) : Lit := .int .i64 x
theorem kI_lit (x : Int) : WideAt.IsKeyLit (kI x) := by simp [kI, WideAt.IsKeyLit]
theorem kI_inj {x y : Int} (h : kI x = kI y) : x = y := by simpa [kI] using h
/-- The map reads as the set. -/
structure MapIs (D : DU) (l : List Int) : Prop where
  tidy : Tidy D
  size : Maps.size D = l.length
  mem : ∀ x, Maps.has D (kI x) = decide (x ∈ l)
  val : ∀ x, x ∈ l → ∀ z, D.atKey (kI x) z = .lit (.bool true)
theorem MapIs.empty : MapIs (.map []) [] := ⟨tidy_empty, rfl, fun x => by simp [has_eq], fun x hx => by simp at hx⟩
theorem MapIs.none {D : DU} {l : List Int} (h : MapIs D l) {x : Int} (hx : x ∉ l) (z : DU) : D.atKey (kI x) z = z := atKey_of_not_has (by rw [h.mem, decide_eq_false hx]) z
theorem MapIs.put {D : DU} {l : List Int} (h : MapIs D l) (x : Int) : MapIs (D.put (kI x) (.lit (.bool true))) (insU l x) := by
  refine ⟨h.tidy.put (kI_lit x) _, ?_, fun y => ?_, fun y hy z => ?_⟩
  · rw [size_put h.tidy, insU_len, h.mem, h.size]
    by_cases hx : x ∈ l
    · rw [decide_eq_true hx, if_pos rfl, if_pos hx]
    · rw [decide_eq_false hx, if_neg (by simp), if_neg hx]
  · by_cases hxy : y = x
    · subst hxy
      rw [has_put_same h.tidy.isMap (kI_lit y), decide_eq_true (mem_insU.2 (Or.inl rfl))]
    · rw [has_put_other (fun e => hxy (kI_inj e)), h.mem]
      by_cases hy : y ∈ l
      · rw [decide_eq_true hy, decide_eq_true (mem_insU.2 (Or.inr hy))]
      · rw [decide_eq_false hy, decide_eq_false (fun h' => (mem_insU.1 h').elim hxy hy)]
  · by_cases hxy : y = x
    · subst hxy
      exact atKey_put_same h.tidy.isMap (kI_lit y) _ z
    · rw [atKey_put_other (fun e => hxy (kI_inj e))]
      exact h.val y ((mem_insU.1 hy).resolve_left hxy) z
theorem plainElem_bool_inv {H : Type} {P : Program} {e : TypeId} (he : P.underlying e = some .bool) {v : Value} {z : DataW H × List MemPlace} (h : plainElem P e v = some z) : ∃ a, v = .bool a ∧ z = (.lit (.bool a), []) := by
  unfold plainElem at h
  rw [he] at h
  cases v <;> simp at h
  rename_i a
  exact ⟨a, rfl, h.symm⟩
/-- 'm[k]' where the elements are bools. -/
theorem wpList_lookup_own_bool {H : Type} {P : Program} (w : World) {ops : Array Oper} {rest : List Oper} {o : Oper} {a : Act} {Q : Exit → Act → World → Prop}
    (hg : o.guard = none) (m x : Operand) (t : TypeId) (hop : o.op = Op.lookup t m x false)
    (k e : TypeId) (K : Keyed P k) (ht : P.underlying t = some (.map k e)) (he : P.underlying e = some .bool) (hz : (zeroValue e).run P w = .ok (.bool false) w) (b n : Nat) (D : DataW H)
    (hm : a.eval m = .map (some b)) (hown : w.ownsMap P k (plainElem P e) b n D) (key : Value) (kl : Lit) (hx : a.eval x = key) (hkey : keyOf P k key = some kl)
    (hK : ∀ c : Bool, D.atKey kl (.lit (.bool false)) = .lit (.bool c) → wpList P ops Q rest (a.put o.dst (.bool c)) w) :
    wpList P ops Q (o :: rest) a w := by
  refine wpList_plain hg fun K' hK' => ?_
  obtain ⟨v, ps, hrun, hv⟩ := hown.lookup K ht hz (plainElem_bool he false) hkey
  obtain ⟨c, rfl, hc⟩ := plainElem_bool_inv he hv
  simp only [Prod.mk.injEq] at hc
  unfold Oper.wp
  simp [execOp, hop, hm, hx, hrun, Result.andThen]
  exact hK' _ _ (hK c hc.1)
/-- The range's step where keys are integers and elements bools. -/
theorem wpList_next_ranges_ib {H : Type} {P : Program} (w : World) {ops : Array Oper} {rest : List Oper} {o : Oper} {a : Act} {Q : Exit → Act → World → Prop} (hg : o.guard = none) (it : Operand) (hop : o.op = Op.next it false) (k e : TypeId) (qk : IntKind) (K : Keyed P k) (hk : P.underlying k = some (.int qk)) (he : P.underlying e = some .bool)
    (b r n : Nat) (D : DataW H) (left : Lit → Bool) (cnt : Nat) (hit : a.eval it = .pointer (some ⟨r, 0, none⟩)) (h : w.ranges P k (plainElem P e) b r n D left cnt)
    (hDone : cnt = 0 → (∀ kl, left kl = false) → wpList P ops Q rest (a.put o.dst (.tuple #[.bool false])) w)
    (hMore : ∀ (x : Int) (c : Bool) (w' : World) (cnt' : Nat), left (.int qk x) = true → w'.ranges P k (plainElem P e) b r n D (fun z => left z && !z.sameKey (.int qk x)) cnt' → cnt' < cnt →
      w.grownBy w' (some r) → w'.heap.size = w.heap.size → (Instr.entry (.pointer (some ⟨r, 0, none⟩))).run P w' = .ok (.tuple #[.int qk x, .bool c]) w' → wpList P ops Q rest (a.put o.dst (.tuple #[.bool true, .int qk x, .bool c])) w') :
    wpList P ops Q (o :: rest) a w :=
  wpList_next_ranges w hg it hop k K (plainElem P e) (Value.int qk) Value.bool (fun key kl hkey => by obtain ⟨x, rfl, _⟩ := Maps.keyOf_int_inv hk hkey; exact ⟨x, rfl⟩) (fun v y hv => by obtain ⟨c, rfl, _⟩ := plainElem_bool_inv he hv; exact ⟨c, rfl⟩)
    b r n D left cnt hit h hDone (fun x c kl y w' cnt' hkey hlk hv hat hrg hlt hgr hsz hen => by
      obtain ⟨x', ex, rfl, hwx⟩ := Maps.keyOf_int_inv hk hkey
      cases ex
      exact hMore x c w' cnt' hlk hrg hlt hgr hsz hen)
theorem ranges_mem {P : Program} {k : TypeId} {R : Value → Option (DU × List MemPlace)} {w : World} {b r n cnt : Nat} {D : DU} {left : Lit → Bool} {l : List Int} (h : w.ranges P k R b r n D left cnt) (hm : MapIs D l) {x : Int} (hx : left (kI x) = true) : x ∈ l := by
  obtain ⟨es, clock, since, seen, c0, hb, F, hs, hD, hr, hs2, hc, h1, h2, h3, h4⟩ := h
  obtain ⟨y, hy, hyk⟩ := h2 _ hx
  have := hm.mem x
  rw [hD, has_eq] at this
  have h5 : ((es.toList.map (rg P k R)).foldr DataW.insert []).any (fun p => p.1.sameKey (kI x)) = true := by
    rw [List.any_eq_true]
    exact ⟨rg P k R y, mem_sorted.2 (List.mem_map.2 ⟨y, hy, rfl⟩), by rw [hyk]; exact WideAt.sameKey_self (kI_lit x)⟩
  rw [h5] at this
  exact of_decide_eq_true this.symm
/-- The range's step over such a set. -/
theorem wpList_next_set {P : Program} (w : World) {ops : Array Oper} {rest : List Oper} {o : Oper} {a : Act} {Q : Exit → Act → World → Prop} (hg : o.guard = none) (it : Operand) (hop : o.op = Op.next it false) (k e : TypeId) (K : Keyed P k) (hk : P.underlying k = some (.int .i64)) (he : P.underlying e = some .bool)
    (b r n : Nat) (D : DU) (l : List Int) (hm : MapIs D l) (left : Lit → Bool) (cnt : Nat) (hit : a.eval it = .pointer (some ⟨r, 0, none⟩)) (h : w.ranges P k (plainElem P e) b r n D left cnt)
    (hDone : (∀ kl, left kl = false) → wpList P ops Q rest (a.put o.dst (.tuple #[.bool false])) w)
    (hMore : ∀ (x : Int) (w' : World) (cnt' : Nat), x ∈ l → left (kI x) = true → w'.ranges P k (plainElem P e) b r n D (fun z => left z && !z.sameKey (kI x)) cnt' → cnt' < cnt →
      w.grownBy w' (some r) → w'.heap.size = w.heap.size → (Instr.entry (.pointer (some ⟨r, 0, none⟩))).run P w' = .ok (.tuple #[.int .i64 x, .bool true]) w' → wpList P ops Q rest (a.put o.dst (.tuple #[.bool true, .int .i64 x, .bool true])) w') :
    wpList P ops Q (o :: rest) a w :=
  wpList_next_ranges w hg it hop k K (plainElem P e) (Value.int .i64) Value.bool (fun key kl hkey => by obtain ⟨x, rfl, _⟩ := Maps.keyOf_int_inv hk hkey; exact ⟨x, rfl⟩) (fun v y hv => by obtain ⟨c, rfl, _⟩ := plainElem_bool_inv he hv; exact ⟨c, rfl⟩)
    b r n D left cnt hit h (fun _ hl => hDone hl) (fun x c kl y w' cnt' hkey hlk hv hat hrg hlt hgr hsz hen => by
      obtain ⟨x', ex, rfl, hwx⟩ := Maps.keyOf_int_inv hk hkey
      cases ex
      have hx := ranges_mem h hm (x := x) hlk
      obtain ⟨c', ec, hy⟩ := plainElem_bool_inv he hv
      cases ec
      have h1 := hat (.lit (.bool false))
      have h2 := hm.val x hx (.lit (.bool false))
      unfold kI at h2
      rw [h2, hy] at h1
      have hc : c = true := by simpa using h1.symm
      subst hc
      exact hMore x w' cnt' hx hlk hrg hlt hgr hsz hen)
/-- 'm[k]' of such a set. -/
theorem wpList_lookup_set {P : Program} (w : World) {ops : Array Oper} {rest : List Oper} {o : Oper} {a : Act} {Q : Exit → Act → World → Prop}
    (hg : o.guard = none) (m x : Operand) (t : TypeId) (hop : o.op = Op.lookup t m x false)
    (k e : TypeId) (K : Keyed P k) (ht : P.underlying t = some (.map k e)) (he : P.underlying e = some .bool) (hz : (zeroValue e).run P w = .ok (.bool false) w) (b n : Nat) (D : DU) (l : List Int) (hmp : MapIs D l)
    (hm : a.eval m = .map (some b)) (hown : w.ownsMap P k (plainElem P e) b n D) (z : Int) (hx : a.eval x = .int .i64 z) (hkey : keyOf P k (.int .i64 z) = some (kI z)) (d : Bool) (hd : decide (z ∈ l) = d)
    (hK : wpList P ops Q rest (a.put o.dst (.bool d)) w) :
    wpList P ops Q (o :: rest) a w :=
  wpList_lookup_own_bool w hg m x t hop k e K ht he hz b n D hm hown _ (kI z) hx hkey (fun c hc => by
    have : c = d := by
      by_cases h : z ∈ l
      · rw [hmp.val z h] at hc
        rw [← hd, decide_eq_true h]
        simpa using hc.symm
      · rw [hmp.none h] at hc
        rw [← hd, decide_eq_false h]
        simpa using hc.symm
    rw [this]
    exact hK)
/-- 'm[k] = v' at a step of a region that draws. -/
theorem step_mapUpdate_own {H : Type} {P : Program} (w : World) {ops : Array Oper} {o : Oper} {a : Act} {K : Act → World → Prop} {Q : Exit → Act → World → Prop} {E : Prop}
    (hg : o.guard = none) (m x v : Operand) (t : TypeId) (hop : o.op = Op.mapUpdate t m x v)
    (k e : TypeId) (KK : Keyed P k) (ht : P.underlying t = some (.map k e)) (R : Value → Option (DataW H × List MemPlace)) (b n : Nat) (D : DataW H)
    (hm : a.eval m = .map (some b)) (hown : w.ownsMap P k R b n D) (hn : n < maxLen) (key val : Value) (kl : Lit) (hx : a.eval x = key) (hv : a.eval v = val) (hkey : keyOf P k key = some kl)
    (d : DataW H) (ps : List MemPlace) (hval : R val = some (d, ps))
    (hK : ∀ w', w'.ownsMap P k R b (n + 1) (D.put kl d) → w.grownBy w' (some b) → K (a.put o.dst undef) w') :
    if Region.wanted o (yielded ops a.tmps) = true then Oper.wp P o a w K Q else E := by
  have hw : Region.wanted o (yielded ops a.tmps) = true := by simp [Region.wanted, hg]
  rw [if_pos hw]
  obtain ⟨w', hrun, r1, r2⟩ := hown.update KK ht hn hkey hval
  unfold Oper.wp
  simp [execOp, hop, hm, hx, hv, hrun, Result.andThen]
  exact hK w' r1 r2
end Go.Gh
