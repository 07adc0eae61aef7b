/-
  The replacer: what the table holds, and how it stays.
-/
import Derived.Test.YtjmplhkdohlbcaaGreatDoorEz3
import Derived.Test.YtjmplhkdohlbcaaGreatDoorEz4
import Derived.ArgAppend
import Derived.Lib.Bytealg
import Derived.Laws.IdiomCopy
import Derived.Lib.Overlaps
import Derived.Deep.RegionLaw
import Derived.BigCall
namespace Go.Proofs.YtjmplhkdohlbcaaGreatDoor.Rep
open Go.RowKit Go.Gh
set_option linter.unusedVariables false
set_option linter.unusedSimpArgs false
/-- What stands for a byte. -/
def replF (d : List (Nat × By)) (i : Nat) : Option By := (d.find? fun p => p.1 == i).map (·.2)
def CellIs (w : World) (RB T i : Nat) (o : Option By) : Prop := match o with
  | none => w.cell? ⟨RB, i, none⟩ = some (.slice none 0 0)
  | some bs => ∃ b c, w.cell? ⟨RB, i, none⟩ = some (.slice (some ⟨b, 0, none⟩) bs.length c) ∧ Sl w 1 (.slice (some ⟨b, 0, none⟩) bs.length c) bs.length ((bs.map fun x => (x.toNat : Int)).map (Value.int .u8)) ∧ b ≠ RB ∧ b ≠ T
def TabIs (w : World) (RB T : Nat) (d : List (Nat × By)) : Prop := ∀ i, i < 256 → CellIs w RB T i (replF d i)
section
variable {w w' : World} {RB T : Nat} {d : List (Nat × By)}
theorem TabIs.below (h : TabIs w RB T d) (hb : Below w.heap.size w w') : TabIs w' RB T d := fun i hi => by
  have := h i hi
  revert this
  cases replF d i with
  | none =>
    intro h
    exact (hb.cell (p := ⟨RB, i, none⟩) (cell_lt h)).trans h
  | some bs =>
    rintro ⟨b, c, h1, h2, h3⟩
    exact ⟨b, c, (hb.cell (p := ⟨RB, i, none⟩) (cell_lt h1)).trans h1, h2.below hb, h3⟩
theorem sl_blocks {size n c b : Nat} {xs : List Value} (h : Sl w size (.slice (some ⟨b, 0, none⟩) n c) n xs) (hc : ∀ j v, w.cell? ⟨b, j, none⟩ = some v → w'.cell? ⟨b, j, none⟩ = some v) : Sl w' size (.slice (some ⟨b, 0, none⟩) n c) n xs := by
  obtain ⟨ao, cap, e, h2, h3, h4, h5, h6⟩ := h
  simp at e
  obtain ⟨rfl, rfl⟩ := e
  refine ⟨_, _, rfl, h2, h3, h4, h5, fun hn => ?_⟩
  obtain ⟨b', off, e2, h7⟩ := h6 hn
  simp at e2
  obtain ⟨rfl, rfl⟩ := e2
  exact ⟨b, 0, rfl, fun j u hu => hc _ _ (h7 j u hu)⟩
/-- An append to the row T. -/
theorem TabIs.grown (h : TabIs w RB T d) (hg : w.grownBy w' (some T)) (hT : RB ≠ T) : TabIs w' RB T d := fun i hi => by
  have hcell : ∀ b j v, b ≠ T → w.cell? ⟨b, j, none⟩ = some v → w'.cell? ⟨b, j, none⟩ = some v := fun b j v hb hv => by
    have hlt := cell_lt hv
    have := hg.block b hlt (fun e => hb (by injection e))
    simpa [World.cell?, this] using hv
  have := h i hi
  revert this
  cases replF d i with
  | none => exact fun h => hcell _ _ _ hT h
  | some bs =>
    rintro ⟨b, c, h1, h2, h3, h4⟩
    exact ⟨b, c, hcell _ _ _ hT h1, sl_blocks h2 (fun j v => hcell b j v h4), h3, h4⟩
/-- A store into the table's last cell. -/
theorem TabIs.last (h : TabIs w RB T d) (v : Value) : TabIs (w.setCell ⟨RB, 256, none⟩ v) RB T d := fun i hi => by
  have := h i hi
  revert this
  cases replF d i with
  | none => exact fun h => (World.cell?_setCell_other _ ⟨RB, 256, none⟩ ⟨RB, i, none⟩ _ (by intro e; injection e; omega)).trans h
  | some bs =>
    rintro ⟨b, c, h1, h2, h3, h4⟩
    exact ⟨b, c, (World.cell?_setCell_other _ ⟨RB, 256, none⟩ ⟨RB, i, none⟩ _ (by intro e; injection e; omega)).trans h1, sl_blocks h2 (fun j v hv => (World.cell?_setCell_other _ ⟨RB, 256, none⟩ ⟨b, j, none⟩ _ (by intro e; injection e with e1 e2; exact h3 e1.symm)).trans hv), h3, h4⟩
/-- A store of a replacement. -/
theorem TabIs.put (h : TabIs w RB T d) {o b c : Nat} {bs : By} (ho : o < 256) (hc : (w.cell? ⟨RB, o, none⟩).isSome = true) (hs : Sl w 1 (.slice (some ⟨b, 0, none⟩) bs.length c) bs.length ((bs.map fun x => (x.toNat : Int)).map (Value.int .u8))) (hb : b ≠ RB) (hbT : b ≠ T) :
    TabIs (w.setCell ⟨RB, o, none⟩ (.slice (some ⟨b, 0, none⟩) bs.length c)) RB T ((o, bs) :: d) := fun i hi => by
  have hoth : ∀ b j v, b ≠ RB → w.cell? ⟨b, j, none⟩ = some v → (w.setCell ⟨RB, o, none⟩ (.slice (some ⟨b, 0, none⟩) bs.length c)).cell? ⟨b, j, none⟩ = some v := fun b j v hb hv => (World.cell?_setCell_other _ ⟨RB, o, none⟩ ⟨b, j, none⟩ _ (by intro e; injection e with e1 e2; exact hb e1.symm)).trans hv
  have hoth2 : ∀ (x : Value) b j v, b ≠ RB → w.cell? ⟨b, j, none⟩ = some v → (w.setCell ⟨RB, o, none⟩ x).cell? ⟨b, j, none⟩ = some v := fun x b j v hb hv => (World.cell?_setCell_other _ ⟨RB, o, none⟩ ⟨b, j, none⟩ _ (by intro e; injection e with e1 e2; exact hb e1.symm)).trans hv
  by_cases hio : i = o
  · subst hio
    obtain ⟨v, hv⟩ := Option.isSome_iff_exists.1 hc
    have e : replF ((i, bs) :: d) i = some bs := by unfold replF; simp
    rw [e]
    exact ⟨b, c, World.cell?_setCell_same _ _ _ hv, sl_blocks hs (fun j v hv => hoth2 _ b j v hb hv), hb, hbT⟩
  · have e : replF ((o, bs) :: d) i = replF d i := by unfold replF; simp [Ne.symm hio]
    rw [e]
    have := h i hi
    revert this
    cases replF d i with
    | none => exact fun h => (World.cell?_setCell_other _ ⟨RB, o, none⟩ ⟨RB, i, none⟩ _ (by intro e; injection e; omega)).trans h
    | some bs' =>
      rintro ⟨b', c', h1, h2, h3, h4⟩
      exact ⟨b', c', (World.cell?_setCell_other _ ⟨RB, o, none⟩ ⟨RB, i, none⟩ _ (by intro e; injection e; omega)).trans h1, sl_blocks h2 (fun j v hv => hoth2 _ b' j v h3 hv), h3, h4⟩
end
theorem tab_new {w : World} {RB T : Nat} {v : Value} (h : w.heap[RB]? = some (.cells (bsC v) 246 (0, 0))) : TabIs w RB T [] := fun i hi => by
  show w.cell? ⟨RB, i, none⟩ = some (.slice none 0 0)
  refine (row_cell i _ h ?_).1
  unfold bsC
  rw [Array.getElem?_push, if_neg (by rw [Array.size_replicate]; omega), Array.getElem?_replicate, if_pos hi]
end Go.Proofs.YtjmplhkdohlbcaaGreatDoor.Rep
/-
  The replacer: a round of the table's making.
-/
namespace Go.Proofs.YtjmplhkdohlbcaaGreatDoor.Rep
open Go.RowKit Go.Gh
set_option linter.unusedVariables false
set_option linter.unusedSimpArgs false
/-- The world behind a round. -/
def nextW (wr : World) (RB T k o : Nat) (s n : ByteArray) : World :=
  let A2 := (wr.alloc (.cells #[.int .u8 o] 5)).alloc (.cells #[.string s] 9)
  let A4 := (A2.setCell ⟨T, k, none⟩ (.string s)).setCell ⟨RB, 256, none⟩ (.slice (some ⟨T, 0, none⟩) (k + 1) 3)
  (Lib.bytesWorld A4 5 n).setCell ⟨RB, o, none⟩ (.slice (some ⟨A4.heap.size, 0, none⟩) n.size (grownCap A4 n.size 0 5))
structure TInv (w wr : World) (RB T k : Nat) (d : List (Nat × By)) (ns : List ByteArray) : Prop where
  bel : Below w.heap.size w wr
  tab : TabIs wr RB T d
  ne : T < RB
  old : w.heap.size ≤ T
  rowT : ∃ a : Array Value, wr.heap[T]? = some (.cells a 9 (0, 0)) ∧ a.size = 3 ∧ ∀ (j : Nat) (s : ByteArray), ns[j]? = some s → a[j]? = some (Value.string s)
  rowB : ∃ a : Array Value, wr.heap[RB]? = some (.cells a 246 (0, 0)) ∧ a.size = 257 ∧ a[256]? = some (.slice (some ⟨T, 0, none⟩) k 3)
  len : ns.length = k
theorem setCell_heap (w : World) (b i : Nat) (v : Value) (j : Nat) (h : j ≠ b) : (w.setCell ⟨b, i, none⟩ v).heap[j]? = w.heap[j]? := Below.heap_setCell w ⟨b, i, none⟩ v j (fun e => h (by first | exact e | exact e.symm))
theorem setCell_row {w : World} {b : Nat} {a : Array Value} {e : TypeId} (h : w.heap[b]? = some (.cells a e (0, 0))) (i : Nat) (v : Value) : (w.setCell ⟨b, i, none⟩ v).heap[b]? = some (.cells (a.setIfInBounds i v) e (0, 0)) := row_setCell i v h
theorem tinv_next {w wr : World} {RB T k o : Nat} {d : List (Nat × By)} {ns : List ByteArray} {s : ByteArray} {l : By} (h : TInv w wr RB T k d ns) (hk : k < 3) (ho : o < 256) (hl : l.length ≤ 140737488355328) :
    TInv w (nextW wr RB T k o s (mkS l)) RB T (k + 1) ((o, l) :: d) (ns ++ [s]) := by
  obtain ⟨aT, t1, t2, t3⟩ := h.rowT
  obtain ⟨aB, b1, b2, b3⟩ := h.rowB
  have hne := h.ne
  have hold := h.old
  have hTl : T < wr.heap.size := (Array.getElem?_eq_some_iff.1 t1).1
  have hBl : RB < wr.heap.size := (Array.getElem?_eq_some_iff.1 b1).1
  unfold nextW
  dsimp only
  obtain ⟨A2, hA2⟩ : ∃ A2, A2 = (wr.alloc (.cells #[.int .u8 (o : Int)] 5)).alloc (.cells #[.string s] 9) := ⟨_, rfl⟩
  rw [← hA2]
  have hb2 : Below wr.heap.size wr A2 := by rw [hA2]; exact ((Below.refl _ _).alloc (Nat.le_refl _) _).alloc (by simp) _
  have tab2 := h.tab.below hb2
  have t1' := (hb2.block _ hTl).trans t1
  have b1' := (hb2.block _ hBl).trans b1
  -- the string is put into the row
  obtain ⟨A3, hA3⟩ : ∃ A3, A3 = A2.setCell ⟨T, k, none⟩ (.string s) := ⟨_, rfl⟩
  rw [← hA3]
  have hg3 : A2.grownBy A3 (some T) := by
    rw [hA3]
    exact ⟨rfl, rfl, rfl, by simp, fun j hj hne => setCell_heap _ _ _ _ _ (fun e => hne (by rw [e]))⟩
  have tab3 := tab2.grown hg3 (by omega)
  have t13 := by
    have := setCell_row t1' k (.string s)
    rwa [← hA3] at this
  have b13 : A3.heap[RB]? = some (.cells aB 246 (0, 0)) := by rw [hA3, setCell_heap _ _ _ _ _ (by omega)]; exact b1'
  have bel3 : Below w.heap.size w A3 := by rw [hA3]; exact (h.bel.trans (hb2.mono h.bel.size)).setCell (p := ⟨T, k, none⟩) hold _
  -- the slice is stored
  obtain ⟨A4, hA4⟩ : ∃ A4, A4 = A3.setCell ⟨RB, 256, none⟩ (.slice (some ⟨T, 0, none⟩) (k + 1) 3) := ⟨_, rfl⟩
  rw [← hA4]
  have tab4 : TabIs A4 RB T d := by rw [hA4]; exact tab3.last _
  have t14 : A4.heap[T]? = some (.cells (aT.setIfInBounds k (.string s)) 9 (0, 0)) := by rw [hA4, setCell_heap _ _ _ _ _ (by omega)]; exact t13
  have b14 := by
    have := setCell_row b13 256 (.slice (some ⟨T, 0, none⟩) (k + 1) 3)
    rwa [← hA4] at this
  have bel4 : Below w.heap.size w A4 := by rw [hA4]; exact bel3.setCell (p := ⟨RB, 256, none⟩) (by show w.heap.size ≤ RB; omega) _
  -- the replacement's bytes
  have hT4 : T < A4.heap.size := (Array.getElem?_eq_some_iff.1 t14).1
  have hB4 : RB < A4.heap.size := (Array.getElem?_eq_some_iff.1 b14).1
  have hb5 := convS_below A4 5 (mkS l)
  have hsl := convS_sl A4 5 (mkS l) (by rw [mkS_size]; exact hl)
  rw [kbS_mk, mkS_size] at hsl
  obtain ⟨A5, hA5⟩ : ∃ A5, A5 = Lib.bytesWorld A4 5 (mkS l) := ⟨_, rfl⟩
  rw [← hA5] at hb5 hsl ⊢
  have tab5 := tab4.below hb5
  have t15 := (hb5.block _ hT4).trans t14
  have b15 := (hb5.block _ hB4).trans b14
  have bel5 := bel4.trans (hb5.mono bel4.size)
  have hco : (A5.cell? ⟨RB, o, none⟩).isSome = true := by
    have hsz : o < (aB.setIfInBounds 256 (.slice (some ⟨T, 0, none⟩) (k + 1) 3)).size := by rw [Array.size_setIfInBounds, b2]; omega
    rw [(row_cell o _ b15 (Array.getElem?_eq_getElem hsz)).1]
    rfl
  rw [mkS_size]
  refine ⟨bel5.setCell (p := ⟨RB, o, none⟩) (by show w.heap.size ≤ RB; omega) _, tab5.put ho hco hsl (by omega) (by omega), hne, hold, ⟨aT.setIfInBounds k (.string s), by rw [setCell_heap _ _ _ _ _ (by omega)]; exact t15, by rw [Array.size_setIfInBounds]; exact t2, fun j s' hj => ?_⟩, ⟨_, setCell_row b15 o _, by rw [Array.size_setIfInBounds, Array.size_setIfInBounds]; exact b2, ?_⟩, by rw [List.length_append, h.len]; rfl⟩
  · rw [Array.getElem?_setIfInBounds]
    rcases Nat.lt_or_ge j k with hj2 | hj2
    · rw [if_neg (by omega)]
      rw [List.getElem?_append_left (by rw [h.len]; exact hj2)] at hj
      exact t3 j s' hj
    · rw [List.getElem?_append_right (by rw [h.len]; exact hj2), h.len] at hj
      have hjk : j = k := by
        have := (List.getElem?_eq_some_iff.1 hj).1
        simp at this
        omega
      subst hjk
      rw [Nat.sub_self] at hj
      have : s = s' := by simpa using hj
      rw [if_pos rfl, if_pos (by omega), this]
  · rw [Array.getElem?_setIfInBounds, if_neg (by omega), Array.getElem?_setIfInBounds, if_pos rfl, if_pos (by omega)]
end Go.Proofs.YtjmplhkdohlbcaaGreatDoor.Rep
/-
  The replacer: the walk of build.
-/
namespace Go.Proofs.YtjmplhkdohlbcaaGreatDoor.Rep
open Go.RowKit Go.Gh
set_option linter.unusedVariables false
set_option linter.unusedSimpArgs false
/-- The six strings, in a row. -/
def six : List ByteArray := [⟨#[92]⟩, ⟨#[92, 92]⟩, ⟨#[34]⟩, ⟨#[92, 34]⟩, ⟨#[10]⟩, ⟨#[92, 110]⟩]
def tab1 : List (Nat × By) := [(10, [92, 110])]
def tab2 : List (Nat × By) := (34, [92, 34]) :: tab1
def tab3 : List (Nat × By) := (92, [92, 92]) :: tab2
/-- What a built table holds. -/
def RepIs (w : World) (RB : Nat) : Prop := ∃ T, TabIs w RB T tab3 ∧ T < RB ∧ RB < w.heap.size ∧ w.cell? ⟨RB, 256, none⟩ = some (.slice (some ⟨T, 0, none⟩) 3 3) ∧ w.cell? ⟨T, 0, none⟩ = some (.string ⟨#[10]⟩) ∧ w.cell? ⟨T, 1, none⟩ = some (.string ⟨#[34]⟩) ∧ w.cell? ⟨T, 2, none⟩ = some (.string ⟨#[92]⟩)
theorem app_room (W : World) (T k X : Nat) (s : ByteArray) {a : Array Value} (hT : W.heap[T]? = some (.cells a 9 (0, 0))) (ha : a.size = 3) (hk : k < 3) (hX : W.cell? ⟨X, 0, none⟩ = some (.string s)) (ty : TypeId) :
    (Builtin.append_ #[35, 35] ty #[.slice (some ⟨T, 0, none⟩) k 3, .slice (some ⟨X, 0, none⟩) 1 1]).run Tryz.prog W = .ok (.slice (some ⟨T, 0, none⟩) (k + 1) 3) (W.setCell ⟨T, k, none⟩ (.string s)) := by
  obtain ⟨i0, z0, hi0, hz0, hs0, hby0, hzs0⟩ := elStr.info
  have h := run_append_room_cells (P := Tryz.prog) W 35 ty 9 i0 Tryz.underlying35 hi0 T 0 k 3 ⟨X, 0, none⟩ 1 1 [.string s] (by rw [hs0]; rfl) (fun j u hj => by
    cases j with
    | zero => simp at hj; subst hj; exact hX
    | succ j => simp at hj) (by intro u hu; simp at hu; subst hu; rfl) (by omega) (fun j hj => by
    simp at hj
    subst hj
    rw [hs0, Nat.zero_add, Nat.mul_one, Nat.add_zero, (row_cell k _ hT (Array.getElem?_eq_getElem (by omega))).1]
    rfl) (fun j hj => by
    simp at hj
    subst hj
    rw [hs0, Nat.zero_add, Nat.mul_one, Nat.add_zero]
    exact (row_cell k _ hT (Array.getElem?_eq_getElem (by omega))).2)
  rw [hs0, Nat.zero_add, Nat.mul_one] at h
  exact h
theorem app_step {P : Program} {ops : Array Oper} {rest : List Oper} {o : Oper} {a : Act} {Q : Exit → Act → World → Prop} {W w' : World} {v' : Value} {t tx : TypeId} (hgd : o.guard = none) (s x : Operand)
    (ho : o.op = .call { callee := .builtin .append, args := #[s, x], argTypes := #[t, tx] }) (hr : ∀ ty, (Builtin.append_ #[t, tx] ty #[a.eval s, a.eval x]).run P W = .ok v' w')
    (h : wpList P ops Q rest (a.put o.dst v') w') : wpList P ops Q (o :: rest) a W := by
  refine wpList_plain hgd fun K hK' => ?_
  have hrun := hr o.type
  unfold Oper.wp
  simp [execOp, ho, resolve, invoke, builtin, hrun, Result.andThen]
  exact hK' _ _ h
def BuildPost (w : World) (e : Ending) (w' : World) : Prop := ∃ RB, e = .returned (.iface 247 (.pointer (some ⟨RB, 0, none⟩))) ∧ RepIs w' RB ∧ Below w.heap.size w w'
set_option maxHeartbeats 8000000 in
set_option maxRecDepth 100000 in
theorem build_any (B ob c : Nat) (w : World) (h4 : w.cell? ⟨B, 4, none⟩ = some (.slice (some ⟨ob, 0, none⟩) 6 c)) (ho : ∀ i s, six[i]? = some s → w.cell? ⟨ob, i, none⟩ = some (.string s)) :
    Calls Tryz.prog 157 #[.pointer (some ⟨B, 0, none⟩)] w (BuildPost w) := by
  obtain ⟨hz, hi⟩ := zero_of_info infoBs
  have hsz0 := bsC_size (.slice none 0 0)
  have hbuild : ∀ (v : Option Addr) (n c : Nat) (w : World), (Instr.build 246 #[(1, .slice v n c)]).run Tryz.prog w = .ok (.agg (bsC (.slice v n c))) w := fun v n c w => run_build w _ _ _ (builtBs v n c)
  have hstore : ∀ (v : Option Addr) (n c : Nat) (w : World), (storeCells ⟨w.heap.size, 0, none⟩ ((bsC (.slice none 0 0)).toList.set 256 (.slice v n c))).run Tryz.prog (w.alloc (.cells (bsC (.slice none 0 0)) 246)) = .ok () (w.alloc (.cells (bsC (.slice v n c)) 246)) := fun v n c w => by
    rw [bsC_set]
    exact run_storeCells_new w _ _ _ (by rw [hi, bsC_size]) (by rw [bsC_size, bsC_size]) (bsC_one _ rfl)
  have s0 := ho 0 _ rfl
  have s1 := ho 1 _ rfl
  have s2 := ho 2 _ rfl
  have s3 := ho 3 _ rfl
  have s4 := ho 4 _ rfl
  have s5 := ho 5 _ rfl
  have HO := Lib.hid ho
  clear ho
  go_enter Tryz.func157, Tryz.ntmps157
  go_wp2_with fail
  go_loopw [4, 5] (fun a i wr => ∃ k : Nat, k ≤ 3 ∧ a = .bool (k == 0) ∧ i = .int .i64 (2 * k : Nat) ∧ wr = w) (fun _ i _ => 6 - (intOf i).toNat)
  case atStart => exact ⟨0, by decide, rfl, rfl, rfl⟩
  case round =>
    obtain ⟨k, hk, rfl, rfl, hwe⟩ := hrel
    have hwe := hwe.symm
    subst hwe
    have hk4 : k = 0 ∨ k = 1 ∨ k = 2 ∨ k = 3 := by omega
    rcases hk4 with rfl | rfl | rfl | rfl
    · go_wp2_with fail
      go_roundw
      case rel => exact ⟨1, by decide, rfl, rfl, by trivial⟩
      case measure => simp [intOf]
    · go_wp2_with fail
      go_roundw
      case rel => exact ⟨2, by decide, rfl, rfl, by trivial⟩
      case measure => simp [intOf]
    · go_wp2_with fail
      go_roundw
      case rel => exact ⟨3, by decide, rfl, rfl, by trivial⟩
      case measure => simp [intOf]
    · go_wp2_with (at_make; refine make0 elStr rfl _ _ rfl .i64 .i64 _ 3 rfl rfl rfl ?c1 ?c2 (Below.refl w.heap.size w) ?c3 ?_)
      intro w1 hown1 hbel1 hgr1
      have HOW1 := Lib.hid hown1
      have HB1 := Lib.hid hbel1
      clear hown1 hbel1 hgr1
      go_wp2_with fail
      obtain ⟨W2, hW2⟩ : ∃ W2, W2 = w1.alloc (Obj.cells (bsC (.slice (some ⟨w.heap.size, 0, none⟩) 0 3)) 246) := ⟨_, rfl⟩
      rw [← hW2]
      obtain ⟨RB, hRB⟩ : ∃ RB, RB = w1.heap.size := ⟨_, rfl⟩
      obtain ⟨T, hT⟩ : ∃ T, T = w.heap.size := ⟨_, rfl⟩
      have HI0 : Hid (TInv w W2 RB T 0 [] []) := Lib.hid (by
        obtain ⟨h1, h2⟩ := HOW1.out
        rcases h2 with ⟨e1, _⟩ | ⟨g, cap, cur, e1, hb, hg, hnc, hcm, hsz, htk⟩
        · simp at e1
        simp at e1
        obtain ⟨rfl, rfl⟩ := e1
        have hTl := (Array.getElem?_eq_some_iff.1 hg).1
        have hnew : W2.heap[w1.heap.size]? = some (.cells (bsC (.slice (some ⟨w.heap.size, 0, none⟩) 0 3)) 246 (0, 0)) := by rw [hW2]; exact heap_alloc_new w1 _
        have hb2 : Below w.heap.size w W2 := by rw [hW2]; exact HB1.out.alloc HB1.out.size _
        have hold : W2.heap[w.heap.size]? = some (.cells cur 9 (0, 0)) := by rw [hW2]; exact (heap_alloc_old w1 _ hTl).trans hg
        rw [hRB, hT]
        exact ⟨hb2, tab_new hnew, hTl, Nat.le_refl _, ⟨cur, hold, by simpa using hsz, fun j s hj => by simp at hj⟩, ⟨_, hnew, bsC_size _, by unfold bsC; rw [Array.getElem?_push, if_pos (by rw [Array.size_replicate])]⟩, rfl⟩)
      rw [← hRB, ← hT]
      clear hW2 HOW1 hRB hT
      go_loopw [12] (fun i wr => ∃ k : Nat, i = .int .i64 (4 - 2 * (k : Int)) ∧ ((k = 0 ∧ Hid (TInv w wr RB T 0 [] [])) ∨ (k = 1 ∧ Hid (TInv w wr RB T 1 tab1 [⟨#[10]⟩])) ∨ (k = 2 ∧ Hid (TInv w wr RB T 2 tab2 [⟨#[10]⟩, ⟨#[34]⟩])) ∨ (k = 3 ∧ Hid (TInv w wr RB T 3 tab3 [⟨#[10]⟩, ⟨#[34]⟩, ⟨#[92]⟩])))) (fun i _ => (intOf i + 4).toNat)
      case atStart => exact ⟨0, rfl, Or.inl ⟨rfl, HI0⟩⟩
      case round =>
      obtain ⟨k, rfl, ⟨rfl, HI⟩ | ⟨rfl, HI⟩ | ⟨rfl, HI⟩ | ⟨rfl, HI⟩⟩ := hrel
      · -- round 0
        have hc256 : wr.cell? ⟨RB, 256, none⟩ = some (.slice (some ⟨T, 0, none⟩) 0 3) := by
          obtain ⟨a, q1, q2, q3⟩ := HI.out.rowB
          exact (row_cell 256 _ q1 q3).1
        have hcO : wr.cell? ⟨RB, 10, none⟩ = some (.slice none 0 0) := HI.out.tab 10 (by decide)
        have e0 := (HI.out.bel.cell (p := ⟨ob, 4, none⟩) (cell_lt s4)).trans s4
        have e1 := (HI.out.bel.cell (p := ⟨ob, 5, none⟩) (cell_lt s5)).trans s5
        have HN := Lib.hid (tinv_next (s := ⟨#[10]⟩) (l := [92, 110]) (o := 10) HI.out (by decide) (by decide) (by decide))
        have hx : ((⟨#[10]⟩ : ByteArray)[0]'(by decide)).toNat = 10 := rfl
        have he := Lib.run_eql_slice_nil (P := Tryz.prog) wr 117 5 none 0 0 0 0 Tryz.underlying117
        obtain ⟨aT, t1, t2, -⟩ := HI.out.rowT
        obtain ⟨aB, b1, b2, b3⟩ := HI.out.rowB
        have hTl : T < wr.heap.size := (Array.getElem?_eq_some_iff.1 t1).1
        have hBl : RB < wr.heap.size := (Array.getElem?_eq_some_iff.1 b1).1
        have hTB := HI.out.ne
        obtain ⟨A1, hA1⟩ : ∃ A1, A1 = wr.alloc (Obj.cells #[.int .u8 10] 5) := ⟨_, rfl⟩
        obtain ⟨A2, hA2⟩ : ∃ A2, A2 = A1.alloc (Obj.cells #[.string ⟨#[10]⟩] 9) := ⟨_, rfl⟩
        have hbA : Below wr.heap.size wr A2 := by rw [hA2, hA1]; exact ((Below.refl _ _).alloc (Nat.le_refl _) _).alloc (by simp) _
        have hcvb : (convert 117 9 (.slice (some ⟨wr.heap.size, 0, none⟩) 1 1)).run Tryz.prog A1 = .ok (.string ⟨#[10]⟩) A1 := by
          rw [hA1]
          exact run_convert_bytes_back _ 117 9 5 ⟨wr.heap.size, 0, none⟩ 1 [10] Tryz.underlying117 Tryz.underlying5 Tryz.underlying9 (fun j hj => by
            have : j = 0 := by simp at hj; omega
            subst this
            rw [addr_add, Nat.zero_add]
            exact (row_cell 0 _ (heap_alloc_new wr _) rfl).1)
        have happ := app_room A2 T 0 (wr.heap.size + 1) ⟨#[10]⟩ ((hbA.block _ hTl).trans t1) t2 (by decide) (by
          rw [hA2, show wr.heap.size + 1 = A1.heap.size by rw [hA1]; simp]
          exact (row_cell 0 _ (heap_alloc_new A1 _) rfl).1)
        obtain ⟨A3, hA3⟩ : ∃ A3, A3 = A2.setCell ⟨T, 0, none⟩ (.string ⟨#[10]⟩) := ⟨_, rfl⟩
        have hB3 : A3.heap[RB]? = some (.cells aB 246 (0, 0)) := by rw [hA3, setCell_heap _ _ _ _ _ (by omega)]; exact (hbA.block _ hBl).trans b1
        obtain ⟨x256, y256⟩ := row_cell 256 _ hB3 b3
        obtain ⟨A4, hA4⟩ : ∃ A4, A4 = A3.setCell ⟨RB, 256, none⟩ (.slice (some ⟨T, 0, none⟩) (0 + 1) 3) := ⟨_, rfl⟩
        have hB4 := setCell_row hB3 256 (.slice (some ⟨T, 0, none⟩) (0 + 1) 3)
        rw [← hA4] at hB4
        have hBl4 : RB < A4.heap.size := (Array.getElem?_eq_some_iff.1 hB4).1
        have hconv : ∀ W', (convert 9 117 (.string (mkS [92, 110]))).run Tryz.prog W' = .ok (.slice (some ⟨W'.heap.size, 0, none⟩) (mkS [92, 110]).size (grownCap W' (mkS [92, 110]).size 0 5)) (Lib.bytesWorld W' 5 (mkS [92, 110])) := fun W' => Lib.run_convert_string_bytes W' 9 117 5 (mkS [92, 110]) Tryz.underlying9 Tryz.underlying117 Tryz.underlying5
        obtain ⟨A5, hA5⟩ : ∃ A5, A5 = Lib.bytesWorld A4 5 (mkS [92, 110]) := ⟨_, rfl⟩
        have hB5 : A5.heap[RB]? = some (.cells (aB.setIfInBounds 256 (.slice (some ⟨T, 0, none⟩) (0 + 1) 3)) 246 (0, 0)) := by rw [hA5]; exact ((convS_below A4 5 (mkS [92, 110])).block _ hBl4).trans hB4
        obtain ⟨v10, hv10⟩ : ∃ v, (aB.setIfInBounds 256 (.slice (some ⟨T, 0, none⟩) (0 + 1) 3))[10]? = some v := ⟨_, Array.getElem?_eq_getElem (by rw [Array.size_setIfInBounds, b2]; decide)⟩
        obtain ⟨x10, y10⟩ := row_cell 10 _ hB5 hv10
        have HNX : Hid (nextW wr RB T 0 10 ⟨#[10]⟩ (mkS [92, 110]) = A5.setCell ⟨RB, 10, none⟩ (.slice (some ⟨A4.heap.size, 0, none⟩) (mkS [92, 110]).size (grownCap A4 (mkS [92, 110]).size 0 5))) := Lib.hid (by
          rw [hA5, hA4, hA3, hA2, hA1]
          rfl)
        have hnS : mkS [92, 110] = ⟨#[92, 110]⟩ := rfl
        have hcv2 : (convert 9 117 (.string ⟨#[92, 110]⟩)).run Tryz.prog (A3.setCell ⟨RB, 256, none⟩ (.slice (some ⟨T, 0, none⟩) 1 3)) = .ok (.slice (some ⟨A4.heap.size, 0, none⟩) 2 (grownCap A4 2 0 5)) A5 := by
          have := hconv A4
          rw [← hA5] at this
          rw [hA4] at this ⊢
          exact this
        have happ2 : ∀ ty, (Builtin.append_ #[35, 35] ty #[.slice (some ⟨T, 0, none⟩) 0 3, .slice (some ⟨wr.heap.size + 1, 0, none⟩) 1 1]).run Tryz.prog ((wr.alloc (Obj.cells #[.int .u8 10] 5)).alloc (Obj.cells #[.string ⟨#[10]⟩] 9)) = .ok (.slice (some ⟨T, 0, none⟩) 1 3) A3 := by
          intro ty
          have := happ ty
          rw [← hA3] at this
          rw [hA2, hA1] at this
          exact this
        rw [hA1] at hcvb
        have HN2 : Hid (TInv w (A5.setCell ⟨RB, 10, none⟩ (.slice (some ⟨A4.heap.size, 0, none⟩) 2 (grownCap A4 2 0 5))) RB T 1 tab1 [⟨#[10]⟩]) := Lib.hid (by
          have := HN.out
          rw [HNX.out] at this
          exact this)
        clear HI t1 t2 b1 b2 b3 hB3 hB4 hB5 hbA HN HNX hconv happ hA1 hA2 hA3 hA4 hA5 HI0 HB1
        go_upto_region 33 with (fail)
        go_wp2_with (at_builtin; refine app_step rfl _ _ rfl happ2 ?_)
        go_roundw
        case rel => exact ⟨1, rfl, Or.inr (Or.inl ⟨rfl, HN2⟩)⟩
        case measure => simp [intOf]
      · -- round 1
        have hc256 : wr.cell? ⟨RB, 256, none⟩ = some (.slice (some ⟨T, 0, none⟩) 1 3) := by
          obtain ⟨a, q1, q2, q3⟩ := HI.out.rowB
          exact (row_cell 256 _ q1 q3).1
        have hcO : wr.cell? ⟨RB, 34, none⟩ = some (.slice none 0 0) := HI.out.tab 34 (by decide)
        have e0 := (HI.out.bel.cell (p := ⟨ob, 2, none⟩) (cell_lt s2)).trans s2
        have e1 := (HI.out.bel.cell (p := ⟨ob, 3, none⟩) (cell_lt s3)).trans s3
        have HN := Lib.hid (tinv_next (s := ⟨#[34]⟩) (l := [92, 34]) (o := 34) HI.out (by decide) (by decide) (by decide))
        have hx : ((⟨#[34]⟩ : ByteArray)[0]'(by decide)).toNat = 34 := rfl
        have he := Lib.run_eql_slice_nil (P := Tryz.prog) wr 117 5 none 0 0 0 0 Tryz.underlying117
        obtain ⟨aT, t1, t2, -⟩ := HI.out.rowT
        obtain ⟨aB, b1, b2, b3⟩ := HI.out.rowB
        have hTl : T < wr.heap.size := (Array.getElem?_eq_some_iff.1 t1).1
        have hBl : RB < wr.heap.size := (Array.getElem?_eq_some_iff.1 b1).1
        have hTB := HI.out.ne
        obtain ⟨A1, hA1⟩ : ∃ A1, A1 = wr.alloc (Obj.cells #[.int .u8 34] 5) := ⟨_, rfl⟩
        obtain ⟨A2, hA2⟩ : ∃ A2, A2 = A1.alloc (Obj.cells #[.string ⟨#[34]⟩] 9) := ⟨_, rfl⟩
        have hbA : Below wr.heap.size wr A2 := by rw [hA2, hA1]; exact ((Below.refl _ _).alloc (Nat.le_refl _) _).alloc (by simp) _
        have hcvb : (convert 117 9 (.slice (some ⟨wr.heap.size, 0, none⟩) 1 1)).run Tryz.prog A1 = .ok (.string ⟨#[34]⟩) A1 := by
          rw [hA1]
          exact run_convert_bytes_back _ 117 9 5 ⟨wr.heap.size, 0, none⟩ 1 [34] Tryz.underlying117 Tryz.underlying5 Tryz.underlying9 (fun j hj => by
            have : j = 0 := by simp at hj; omega
            subst this
            rw [addr_add, Nat.zero_add]
            exact (row_cell 0 _ (heap_alloc_new wr _) rfl).1)
        have happ := app_room A2 T 1 (wr.heap.size + 1) ⟨#[34]⟩ ((hbA.block _ hTl).trans t1) t2 (by decide) (by
          rw [hA2, show wr.heap.size + 1 = A1.heap.size by rw [hA1]; simp]
          exact (row_cell 0 _ (heap_alloc_new A1 _) rfl).1)
        obtain ⟨A3, hA3⟩ : ∃ A3, A3 = A2.setCell ⟨T, 1, none⟩ (.string ⟨#[34]⟩) := ⟨_, rfl⟩
        have hB3 : A3.heap[RB]? = some (.cells aB 246 (0, 0)) := by rw [hA3, setCell_heap _ _ _ _ _ (by omega)]; exact (hbA.block _ hBl).trans b1
        obtain ⟨x256, y256⟩ := row_cell 256 _ hB3 b3
        obtain ⟨A4, hA4⟩ : ∃ A4, A4 = A3.setCell ⟨RB, 256, none⟩ (.slice (some ⟨T, 0, none⟩) (1 + 1) 3) := ⟨_, rfl⟩
        have hB4 := setCell_row hB3 256 (.slice (some ⟨T, 0, none⟩) (1 + 1) 3)
        rw [← hA4] at hB4
        have hBl4 : RB < A4.heap.size := (Array.getElem?_eq_some_iff.1 hB4).1
        have hconv : ∀ W', (convert 9 117 (.string (mkS [92, 34]))).run Tryz.prog W' = .ok (.slice (some ⟨W'.heap.size, 0, none⟩) (mkS [92, 34]).size (grownCap W' (mkS [92, 34]).size 0 5)) (Lib.bytesWorld W' 5 (mkS [92, 34])) := fun W' => Lib.run_convert_string_bytes W' 9 117 5 (mkS [92, 34]) Tryz.underlying9 Tryz.underlying117 Tryz.underlying5
        obtain ⟨A5, hA5⟩ : ∃ A5, A5 = Lib.bytesWorld A4 5 (mkS [92, 34]) := ⟨_, rfl⟩
        have hB5 : A5.heap[RB]? = some (.cells (aB.setIfInBounds 256 (.slice (some ⟨T, 0, none⟩) (1 + 1) 3)) 246 (0, 0)) := by rw [hA5]; exact ((convS_below A4 5 (mkS [92, 34])).block _ hBl4).trans hB4
        obtain ⟨v10, hv10⟩ : ∃ v, (aB.setIfInBounds 256 (.slice (some ⟨T, 0, none⟩) (1 + 1) 3))[34]? = some v := ⟨_, Array.getElem?_eq_getElem (by rw [Array.size_setIfInBounds, b2]; decide)⟩
        obtain ⟨x10, y10⟩ := row_cell 34 _ hB5 hv10
        have HNX : Hid (nextW wr RB T 1 34 ⟨#[34]⟩ (mkS [92, 34]) = A5.setCell ⟨RB, 34, none⟩ (.slice (some ⟨A4.heap.size, 0, none⟩) (mkS [92, 34]).size (grownCap A4 (mkS [92, 34]).size 0 5))) := Lib.hid (by
          rw [hA5, hA4, hA3, hA2, hA1]
          rfl)
        have hnS : mkS [92, 34] = ⟨#[92, 34]⟩ := rfl
        have hcv2 : (convert 9 117 (.string ⟨#[92, 34]⟩)).run Tryz.prog (A3.setCell ⟨RB, 256, none⟩ (.slice (some ⟨T, 0, none⟩) 2 3)) = .ok (.slice (some ⟨A4.heap.size, 0, none⟩) 2 (grownCap A4 2 0 5)) A5 := by
          have := hconv A4
          rw [← hA5] at this
          rw [hA4] at this ⊢
          exact this
        have happ2 : ∀ ty, (Builtin.append_ #[35, 35] ty #[.slice (some ⟨T, 0, none⟩) 1 3, .slice (some ⟨wr.heap.size + 1, 0, none⟩) 1 1]).run Tryz.prog ((wr.alloc (Obj.cells #[.int .u8 34] 5)).alloc (Obj.cells #[.string ⟨#[34]⟩] 9)) = .ok (.slice (some ⟨T, 0, none⟩) 2 3) A3 := by
          intro ty
          have := happ ty
          rw [← hA3] at this
          rw [hA2, hA1] at this
          exact this
        rw [hA1] at hcvb
        have HN2 : Hid (TInv w (A5.setCell ⟨RB, 34, none⟩ (.slice (some ⟨A4.heap.size, 0, none⟩) 2 (grownCap A4 2 0 5))) RB T 2 tab2 [⟨#[10]⟩, ⟨#[34]⟩]) := Lib.hid (by
          have := HN.out
          rw [HNX.out] at this
          exact this)
        clear HI t1 t2 b1 b2 b3 hB3 hB4 hB5 hbA HN HNX hconv happ hA1 hA2 hA3 hA4 hA5 HI0 HB1
        go_upto_region 33 with (fail)
        go_wp2_with (at_builtin; refine app_step rfl _ _ rfl happ2 ?_)
        go_roundw
        case rel => exact ⟨2, rfl, Or.inr (Or.inr (Or.inl ⟨rfl, HN2⟩))⟩
        case measure => simp [intOf]
      · -- round 2
        have hc256 : wr.cell? ⟨RB, 256, none⟩ = some (.slice (some ⟨T, 0, none⟩) 2 3) := by
          obtain ⟨a, q1, q2, q3⟩ := HI.out.rowB
          exact (row_cell 256 _ q1 q3).1
        have hcO : wr.cell? ⟨RB, 92, none⟩ = some (.slice none 0 0) := HI.out.tab 92 (by decide)
        have e0 := (HI.out.bel.cell (p := ⟨ob, 0, none⟩) (cell_lt s0)).trans s0
        have e1 := (HI.out.bel.cell (p := ⟨ob, 1, none⟩) (cell_lt s1)).trans s1
        have HN := Lib.hid (tinv_next (s := ⟨#[92]⟩) (l := [92, 92]) (o := 92) HI.out (by decide) (by decide) (by decide))
        have hx : ((⟨#[92]⟩ : ByteArray)[0]'(by decide)).toNat = 92 := rfl
        have he := Lib.run_eql_slice_nil (P := Tryz.prog) wr 117 5 none 0 0 0 0 Tryz.underlying117
        obtain ⟨aT, t1, t2, -⟩ := HI.out.rowT
        obtain ⟨aB, b1, b2, b3⟩ := HI.out.rowB
        have hTl : T < wr.heap.size := (Array.getElem?_eq_some_iff.1 t1).1
        have hBl : RB < wr.heap.size := (Array.getElem?_eq_some_iff.1 b1).1
        have hTB := HI.out.ne
        obtain ⟨A1, hA1⟩ : ∃ A1, A1 = wr.alloc (Obj.cells #[.int .u8 92] 5) := ⟨_, rfl⟩
        obtain ⟨A2, hA2⟩ : ∃ A2, A2 = A1.alloc (Obj.cells #[.string ⟨#[92]⟩] 9) := ⟨_, rfl⟩
        have hbA : Below wr.heap.size wr A2 := by rw [hA2, hA1]; exact ((Below.refl _ _).alloc (Nat.le_refl _) _).alloc (by simp) _
        have hcvb : (convert 117 9 (.slice (some ⟨wr.heap.size, 0, none⟩) 1 1)).run Tryz.prog A1 = .ok (.string ⟨#[92]⟩) A1 := by
          rw [hA1]
          exact run_convert_bytes_back _ 117 9 5 ⟨wr.heap.size, 0, none⟩ 1 [92] Tryz.underlying117 Tryz.underlying5 Tryz.underlying9 (fun j hj => by
            have : j = 0 := by simp at hj; omega
            subst this
            rw [addr_add, Nat.zero_add]
            exact (row_cell 0 _ (heap_alloc_new wr _) rfl).1)
        have happ := app_room A2 T 2 (wr.heap.size + 1) ⟨#[92]⟩ ((hbA.block _ hTl).trans t1) t2 (by decide) (by
          rw [hA2, show wr.heap.size + 1 = A1.heap.size by rw [hA1]; simp]
          exact (row_cell 0 _ (heap_alloc_new A1 _) rfl).1)
        obtain ⟨A3, hA3⟩ : ∃ A3, A3 = A2.setCell ⟨T, 2, none⟩ (.string ⟨#[92]⟩) := ⟨_, rfl⟩
        have hB3 : A3.heap[RB]? = some (.cells aB 246 (0, 0)) := by rw [hA3, setCell_heap _ _ _ _ _ (by omega)]; exact (hbA.block _ hBl).trans b1
        obtain ⟨x256, y256⟩ := row_cell 256 _ hB3 b3
        obtain ⟨A4, hA4⟩ : ∃ A4, A4 = A3.setCell ⟨RB, 256, none⟩ (.slice (some ⟨T, 0, none⟩) (2 + 1) 3) := ⟨_, rfl⟩
        have hB4 := setCell_row hB3 256 (.slice (some ⟨T, 0, none⟩) (2 + 1) 3)
        rw [← hA4] at hB4
        have hBl4 : RB < A4.heap.size := (Array.getElem?_eq_some_iff.1 hB4).1
        have hconv : ∀ W', (convert 9 117 (.string (mkS [92, 92]))).run Tryz.prog W' = .ok (.slice (some ⟨W'.heap.size, 0, none⟩) (mkS [92, 92]).size (grownCap W' (mkS [92, 92]).size 0 5)) (Lib.bytesWorld W' 5 (mkS [92, 92])) := fun W' => Lib.run_convert_string_bytes W' 9 117 5 (mkS [92, 92]) Tryz.underlying9 Tryz.underlying117 Tryz.underlying5
        obtain ⟨A5, hA5⟩ : ∃ A5, A5 = Lib.bytesWorld A4 5 (mkS [92, 92]) := ⟨_, rfl⟩
        have hB5 : A5.heap[RB]? = some (.cells (aB.setIfInBounds 256 (.slice (some ⟨T, 0, none⟩) (2 + 1) 3)) 246 (0, 0)) := by rw [hA5]; exact ((convS_below A4 5 (mkS [92, 92])).block _ hBl4).trans hB4
        obtain ⟨v10, hv10⟩ : ∃ v, (aB.setIfInBounds 256 (.slice (some ⟨T, 0, none⟩) (2 + 1) 3))[92]? = some v := ⟨_, Array.getElem?_eq_getElem (by rw [Array.size_setIfInBounds, b2]; decide)⟩
        obtain ⟨x10, y10⟩ := row_cell 92 _ hB5 hv10
        have HNX : Hid (nextW wr RB T 2 92 ⟨#[92]⟩ (mkS [92, 92]) = A5.setCell ⟨RB, 92, none⟩ (.slice (some ⟨A4.heap.size, 0, none⟩) (mkS [92, 92]).size (grownCap A4 (mkS [92, 92]).size 0 5))) := Lib.hid (by
          rw [hA5, hA4, hA3, hA2, hA1]
          rfl)
        have hnS : mkS [92, 92] = ⟨#[92, 92]⟩ := rfl
        have hcv2 : (convert 9 117 (.string ⟨#[92, 92]⟩)).run Tryz.prog (A3.setCell ⟨RB, 256, none⟩ (.slice (some ⟨T, 0, none⟩) 3 3)) = .ok (.slice (some ⟨A4.heap.size, 0, none⟩) 2 (grownCap A4 2 0 5)) A5 := by
          have := hconv A4
          rw [← hA5] at this
          rw [hA4] at this ⊢
          exact this
        have happ2 : ∀ ty, (Builtin.append_ #[35, 35] ty #[.slice (some ⟨T, 0, none⟩) 2 3, .slice (some ⟨wr.heap.size + 1, 0, none⟩) 1 1]).run Tryz.prog ((wr.alloc (Obj.cells #[.int .u8 92] 5)).alloc (Obj.cells #[.string ⟨#[92]⟩] 9)) = .ok (.slice (some ⟨T, 0, none⟩) 3 3) A3 := by
          intro ty
          have := happ ty
          rw [← hA3] at this
          rw [hA2, hA1] at this
          exact this
        rw [hA1] at hcvb
        have HN2 : Hid (TInv w (A5.setCell ⟨RB, 92, none⟩ (.slice (some ⟨A4.heap.size, 0, none⟩) 2 (grownCap A4 2 0 5))) RB T 3 tab3 [⟨#[10]⟩, ⟨#[34]⟩, ⟨#[92]⟩]) := Lib.hid (by
          have := HN.out
          rw [HNX.out] at this
          exact this)
        clear HI t1 t2 b1 b2 b3 hB3 hB4 hB5 hbA HN HNX hconv happ hA1 hA2 hA3 hA4 hA5 HI0 HB1
        go_upto_region 33 with (fail)
        go_wp2_with (at_builtin; refine app_step rfl _ _ rfl happ2 ?_)
        go_roundw
        case rel => exact ⟨3, rfl, Or.inr (Or.inr (Or.inr ⟨rfl, HN2⟩))⟩
        case measure => simp [intOf]
      · have hrep : Hid (RepIs wr RB) := Lib.hid (by
          obtain ⟨aT, t1, t2, t3⟩ := HI.out.rowT
          obtain ⟨aB, b1, b2, b3⟩ := HI.out.rowB
          exact ⟨T, HI.out.tab, HI.out.ne, (Array.getElem?_eq_some_iff.1 b1).1, (row_cell 256 _ b1 b3).1, (row_cell 0 _ t1 (t3 0 _ rfl)).1, (row_cell 1 _ t1 (t3 1 _ rfl)).1, (row_cell 2 _ t1 (t3 2 _ rfl)).1⟩)
        have hbl := Lib.hid HI.out.bel
        clear HI HI0
        go_wp2_with fail
        go_ret
        exact ⟨RB, rfl, hrep.out, hbl.out⟩
end Go.Proofs.YtjmplhkdohlbcaaGreatDoor.Rep
/-
  The replacer: buildOnce, NewReplacer.
-/
namespace Go.Proofs.YtjmplhkdohlbcaaGreatDoor.Rep
open Go.RowKit Go.Gh
set_option linter.unusedVariables false
set_option linter.unusedSimpArgs false
theorem replF_ne {i : Nat} {bs : By} (h : replF tab3 i = some bs) : bs ≠ [] := by
  unfold replF tab3 tab2 tab1 at h
  simp only [List.find?_cons, List.find?_nil] at h
  split at h
  · simp at h; subst h; simp
  · split at h
    · simp at h; subst h; simp
    · split at h
      · simp at h; subst h; simp
      · simp at h
/-- What is built stays where another box is written. -/
theorem RepIs.keep {w w' : World} {RB B x : Nat} (h : RepIs w RB) (h0 : w.cell? ⟨B, 0, none⟩ = some (.int .u32 x)) (hs : w.heap.size ≤ w'.heap.size)
    (hc : ∀ b j v, b ≠ B → w.cell? ⟨b, j, none⟩ = some v → w'.cell? ⟨b, j, none⟩ = some v) : RepIs w' RB ∧ RB ≠ B := by
  obtain ⟨T, h1, h2, h3, h4, h5, h6, h7⟩ := h
  have hT : T ≠ B := by
    rintro rfl
    rw [h0] at h5
    simp at h5
  have hR : RB ≠ B := by
    rintro rfl
    have := h1 0 (by decide)
    have e : replF tab3 0 = none := rfl
    rw [e] at this
    have this : w.cell? ⟨RB, 0, none⟩ = some (.slice none 0 0) := this
    rw [h0] at this
    simp at this
  refine ⟨⟨T, ?_, h2, by omega, hc _ _ _ hR h4, hc _ _ _ hT h5, hc _ _ _ hT h6, hc _ _ _ hT h7⟩, hR⟩
  intro i hi
  have := h1 i hi
  revert this
  cases e : replF tab3 i with
  | none => exact fun h => hc _ _ _ hR h
  | some bs =>
    rintro ⟨b, c, q1, q2, q3, q4⟩
    have hb : b ≠ B := by
      rintro rfl
      obtain ⟨ao, cap, e2, _, _, _, hl, hcell⟩ := q2
      have hne := replF_ne e
      have hp : 0 < bs.length := by cases bs with | nil => exact absurd rfl hne | cons => simp
      obtain ⟨b', off, e3, hcell⟩ := hcell hp
      simp at e2
      obtain ⟨rfl, rfl⟩ := e2
      simp at e3
      obtain ⟨rfl, rfl⟩ := e3
      have hxs : ∃ y : Int, ((bs.map fun x => (x.toNat : Int)).map (Value.int .u8))[0]? = some (.int .u8 y) := by
        cases bs with
        | nil => exact absurd rfl hne
        | cons y _ => exact ⟨_, rfl⟩
      obtain ⟨y, hy⟩ := hxs
      have := hcell 0 _ hy
      rw [h0] at this
      simp at this
    exact ⟨b, c, hc _ _ _ hR q1, sl_blocks q2 (fun j v hv => hc b j v hb hv), q3, q4⟩
/-- What the once leaves. -/
def Built (w0 : World) (B : Nat) (w : World) : Prop := ∃ RB, RepIs w RB ∧ w.cell? ⟨B, 3, none⟩ = some (.iface 247 (.pointer (some ⟨RB, 0, none⟩))) ∧ Below B w0 w ∧ w0.heap.size ≤ w.heap.size ∧ w.cell? ⟨B, 0, none⟩ = some (.int .u32 (0 : Nat))
set_option maxHeartbeats 4000000 in
set_option maxRecDepth 100000 in
theorem once_any (B ob c : Nat) (z : Int) (w : World) (hB : w.heap[B]? = some (.cells #[.int .u32 0, .int .i32 1, .int .u32 z, .nilIface, .slice (some ⟨ob, 0, none⟩) 6 c] 185 (0, 0))) (ho : ∀ i s, six[i]? = some s → w.cell? ⟨ob, i, none⟩ = some (.string s)) :
    Calls Tryz.prog 123 #[.pointer (some ⟨B, 0, none⟩)] w (FPost B (Built w B)) := by
  have HC := Lib.hid (build_any B ob c w (row_cell 4 _ hB rfl).1 ho)
  have hlt : B < w.heap.size := (Array.getElem?_eq_some_iff.1 hB).1
  go_enter Tryz.func123, Tryz.ntmps123
  go_wp2_with (go_at_call 157; refine HC.out.mono ?_; rintro e w1 ⟨RB, rfl, hR, hb⟩
               have hB1 := (hb.block _ hlt).trans hB
               obtain ⟨c3, f3⟩ := row_cell 3 _ hB1 rfl
               obtain ⟨W2, hW2⟩ : ∃ W2, W2 = w1.setCell ⟨B, 3, none⟩ (.iface 247 (.pointer (some ⟨RB, 0, none⟩))) := ⟨_, rfl⟩
               have hB2 := setCell_row hB1 3 (.iface 247 (.pointer (some ⟨RB, 0, none⟩)))
               obtain ⟨c4, f4⟩ := row_cell 4 _ hB2 rfl
               have HR := Lib.hid hR
               have HBB := Lib.hid hb
               have HB1 := Lib.hid hB1
               have HB2 := Lib.hid hB2
               clear hR hb hB1 hB2)
  go_end0
  have hB3 := setCell_row HB2.out 4 (.slice none 0 0)
  obtain ⟨d0, g0⟩ := row_cell 0 _ hB3 rfl
  obtain ⟨d1, g1⟩ := row_cell 1 _ hB3 rfl
  obtain ⟨d3, g3⟩ := row_cell 3 _ hB3 rfl
  have hbig := HBB.out.size
  refine ⟨rfl, d0, d1, g0, g1, RB, (HR.out.keep (row_cell 0 _ HB1.out rfl).1 ?_ ?_).1, d3, ((HBB.out.mono (by omega)).setCell (p := ⟨B, 3, none⟩) (Nat.le_refl B) _).setCell (p := ⟨B, 4, none⟩) (Nat.le_refl B) _, ?_, d0⟩
  · simp
  · intro b j v hb hv
    refine (World.cell?_setCell_other _ ⟨B, 4, none⟩ ⟨b, j, none⟩ _ (by intro e; injection e with e1 e2; exact hb e1.symm)).trans ?_
    exact (World.cell?_setCell_other _ ⟨B, 3, none⟩ ⟨b, j, none⟩ _ (by intro e; injection e with e1 e2; exact hb e1.symm)).trans hv
  · simp
    exact hbig
set_option maxHeartbeats 4000000 in
set_option maxRecDepth 100000 in
/-- NewReplacer at the six strings. -/
theorem new_any (ob c : Nat) (w : World) (ho : ∀ i s, six[i]? = some s → w.cell? ⟨ob, i, none⟩ = some (.string s)) :
    Calls Tryz.prog 95 #[.slice (some ⟨ob, 0, none⟩) 6 c] w fun e w' => ∃ B ob' c', e = .returned (.pointer (some ⟨B, 0, none⟩)) ∧ w.heap.size ≤ B ∧
      w'.heap[B]? = some (.cells #[.int .u32 0, .int .i32 0, .int .u32 0, .nilIface, .slice (some ⟨ob', 0, none⟩) 6 c'] 185 (0, 0)) ∧ (∀ i s, six[i]? = some s → w'.cell? ⟨ob', i, none⟩ = some (.string s)) ∧ ob' ≠ B ∧ Below w.heap.size w w' := by
  have hnews : ∀ j u, (six.map Value.string)[j]? = some u → w.cell? ⟨ob, 0 + j, none⟩ = some u := by
    intro j u hj
    rw [List.getElem?_map] at hj
    obtain ⟨s, hs, rfl⟩ := Option.map_eq_some_iff.1 hj
    rw [Nat.zero_add]
    exact ho j s hs
  have hown : w.ownsRow w.heap.size 9 1 (.slice none 0 0) 0 [] := World.ownsRow_nil _ _ _ _
  have HO := Lib.hid hown
  have HN := Lib.hid hnews
  clear ho hown hnews
  go_enter Tryz.func95, Tryz.ntmps95
  go_wp2_with (at_builtin; refine appendN elStr rfl _ _ rfl HO.out (Below.refl w.heap.size w) (Nat.le_refl _) rfl rfl (by decide) HN.out (by intro u hu; obtain ⟨s, _, rfl⟩ := List.mem_map.1 hu; rfl) (by decide) (by decide) ?_)
  intro v1 w1 hown1 hbel1 hg1
  obtain ⟨o1, o2⟩ := hown1
  rcases o2 with e1 | ⟨g, cap, cur, rfl, hbg, hgr, hnc, hcm, hsz, htk⟩
  · exact absurd e1.2 (by decide)
  have hcells : ∀ i s, six[i]? = some s → w1.cell? ⟨g, i, none⟩ = some (.string s) := by
    intro i s hs
    have h6 : i < 6 := (List.getElem?_eq_some_iff.1 hs).1
    have hx : (List.take (6 * 1) cur.toList)[i]? = some (.string s) := by rw [htk, List.getElem?_map, hs]; rfl
    rw [List.getElem?_take, if_pos (by omega), Array.getElem?_toList] at hx
    exact (row_cell i _ hgr hx).1
  have HC := Lib.hid hcells
  have HBB := Lib.hid hbel1
  have hgl : g < w1.heap.size := (Array.getElem?_eq_some_iff.1 hgr).1
  clear hcells hbel1
  go_wp2
  go_ret
  refine ⟨w1.heap.size, g, cap, rfl, HBB.out.size, heap_alloc_new w1 _, fun i s hs => ?_, by omega, HBB.out.alloc HBB.out.size _⟩
  exact (((Below.refl w1.heap.size w1).alloc (Nat.le_refl _) _).cell (cell_lt (HC.out i s hs))).trans (HC.out i s hs)
end Go.Proofs.YtjmplhkdohlbcaaGreatDoor.Rep
/-
  The replacer: what stands for a byte, how long the answer is; strings.Count at one byte.
-/
namespace Go.Proofs.YtjmplhkdohlbcaaGreatDoor.Rep
open Go.RowKit Go.Gh
set_option linter.unusedVariables false
set_option linter.unusedSimpArgs false
theorem escB_repl (b : UInt8) : escB b = match replF tab3 b.toNat with | none => [b] | some r => r := by
  have h : ∀ c : UInt8, (b = c) = (b.toNat = c.toNat) := fun c => by
    rw [eq_iff_iff]
    exact ⟨fun e => by rw [e], fun e => UInt8.toNat.inj e⟩
  unfold escB replF tab3 tab2 tab1
  simp only [h, List.find?_cons, List.find?_nil]
  by_cases h1 : b.toNat = 92
  · simp [h1]
  · by_cases h2 : b.toNat = 34
    · simp [h2]
    · by_cases h3 : b.toNat = 10
      · simp [h3]
      · have e1 : ((92 : Nat) == b.toNat) = false := by simp; omega
        have e2 : ((34 : Nat) == b.toNat) = false := by simp; omega
        have e3 : ((10 : Nat) == b.toNat) = false := by simp; omega
        simp [e1, e2, e3, h1, h2, h3]
theorem repl_two {i : Nat} {bs : By} (h : replF tab3 i = some bs) : bs.length = 2 := by
  unfold replF tab3 tab2 tab1 at h
  simp only [List.find?_cons, List.find?_nil] at h
  split at h
  · simp at h; subst h; rfl
  · split at h
    · simp at h; subst h; rfl
    · split at h
      · simp at h; subst h; rfl
      · simp at h
def spB (b : UInt8) : Bool := (replF tab3 b.toNat).isSome
def sp (l : By) : Nat := l.countP spB
theorem escB_len (b : UInt8) : (escB b).length = if spB b then 2 else 1 := by
  rw [escB_repl]
  unfold spB
  cases h : replF tab3 b.toNat with
  | none => rfl
  | some r => simpa using repl_two h
theorem esc_cons (b : UInt8) (l : By) : esc (b :: l) = escB b ++ esc l := rfl
theorem esc_len : ∀ l : By, (esc l).length = l.length + sp l
  | [] => rfl
  | b :: l => by
    rw [esc_cons, List.length_append, esc_len l, escB_len]
    unfold sp
    rw [List.countP_cons, List.length_cons]
    cases spB b <;> simp <;> omega
theorem esc_same : ∀ l : By, sp l = 0 → esc l = l
  | [], _ => rfl
  | b :: l, h => by
    unfold sp at h
    rw [List.countP_cons] at h
    have hb : spB b = false := by
      cases hb : spB b with
      | false => rfl
      | true => rw [hb] at h; simp at h
    have hl : sp l = 0 := by unfold sp; omega
    rw [esc_cons, esc_same l hl, escB_repl]
    unfold spB at hb
    cases hr : replF tab3 b.toNat with
    | none => rfl
    | some r => rw [hr] at hb; simp at hb
theorem sp_count (l : By) : sp l = l.count 10 + l.count 34 + l.count 92 := by
  have h : ∀ b : UInt8, (if spB b then 1 else 0) = (if b == 10 then 1 else 0) + (if b == 34 then 1 else 0) + (if b == 92 then 1 else 0) := by
    intro b
    have e := escB_len b
    unfold escB at e
    by_cases h1 : b = 92
    · subst h1; rfl
    · by_cases h2 : b = 34
      · subst h2; rfl
      · by_cases h3 : b = 10
        · subst h3; rfl
        · rw [if_neg h1, if_neg h2, if_neg h3] at e
          cases hs : spB b with
          | true => rw [hs] at e; simp at e
          | false => simp [h1, h2, h3]
  induction l with
  | nil => rfl
  | cons b l ih =>
    unfold sp at ih ⊢
    rw [List.countP_cons, List.count_cons, List.count_cons, List.count_cons, ih]
    have := h b
    omega
theorem sp_take {l : By} {i : Nat} {b : UInt8} (h : l[i]? = some b) : sp (l.take (i + 1)) = sp (l.take i) + (if spB b then 1 else 0) := by
  unfold sp
  rw [List.take_add_one, h, List.countP_append]
  simp [List.countP_cons]
theorem sp_le (l : By) (i : Nat) : sp (l.take i) ≤ sp l := by
  have : sp l = sp (l.take i) + sp (l.drop i) := by
    unfold sp
    rw [← List.countP_append, List.take_append_drop]
  omega
theorem sp_len (l : By) : sp l ≤ l.length := List.countP_le_length
theorem esc_take' {l : By} {i : Nat} {b : UInt8} (h : l[i]? = some b) : esc (l.take (i + 1)) = esc (l.take i) ++ escB b := by
  unfold esc
  rw [List.take_add_one, h, List.flatMap_append]
  simp
theorem esc_take_le (l : By) (i : Nat) : (esc (l.take i)).length ≤ (esc l).length := by
  rw [esc_len, esc_len, List.length_take]
  have := sp_le l i
  omega
set_option maxRecDepth 100000 in
set_option maxHeartbeats 1000000 in
theorem count_any (s : ByteArray) (c : UInt8) (w : World) : Calls Tryz.prog 151 #[.string s, .string ⟨#[c]⟩] w fun e w' => e = .returned (.int .i64 (s.data.toList.count c : Nat)) ∧ w' = w := by
  go_enter Tryz.func151, Tryz.ntmps151
  go_wp2
  rw [run_callFunc_extern Tryz.func173 (by kernel_rfl) (by kernel_rfl) (by kernel_rfl) (e := Extern.BytealgCount.count) (by kernel_rfl), Lib.run_countString]
  simp only [Result.andThen]
  rw [Oper.upon_value]
  go_wp2
  go_ret
  exact ⟨rfl, rfl⟩
end Go.Proofs.YtjmplhkdohlbcaaGreatDoor.Rep
/-
  Rows of the call's own in which an element is put in, or written over.
-/
namespace Go.Gh
open Go.RowKit
set_option linter.unusedVariables false
section
variable {α : Type} {k : Nat} {P : List (α × List Value)}
theorem pc_ins (P : List (α × List Value)) (a : α) (c : List Value) (i : Nat) : pc (P.take i ++ (a, c) :: P.drop i) = pc (P.take i) ++ (c ++ pc (P.drop i)) := by
  rw [pc_append, pc_cons]
theorem PK.ins (h : PK k P) {a : α} {c : List Value} (hc : c.length = k) (i : Nat) : PK k (P.take i ++ (a, c) :: P.drop i) := by
  intro p hp
  rcases List.mem_append.1 hp with h' | h'
  · exact h p (List.mem_of_mem_take h')
  · rcases List.mem_cons.1 h' with h'' | h''
    · rw [h'']; exact hc
    · exact h p (List.mem_of_mem_drop h'')
theorem PK.set (h : PK k P) {a : α} {c : List Value} (hc : c.length = k) (i : Nat) : PK k (P.set i (a, c)) := by
  intro p hp
  rcases List.mem_or_eq_of_mem_set hp with h' | h'
  · exact h p h'
  · rw [h']; exact hc
theorem map_ins (P : List (α × List Value)) (a : α) (c : List Value) (i : Nat) : (P.take i ++ (a, c) :: P.drop i).map (·.1) = (P.map (·.1)).take i ++ a :: (P.map (·.1)).drop i := by
  rw [List.map_append, List.map_cons, List.map_take, List.map_drop]
theorem map_set (P : List (α × List Value)) (a : α) (c : List Value) (i : Nat) : (P.set i (a, c)).map (·.1) = (P.map (·.1)).set i a := by
  rw [List.map_set]
theorem all_ins {Q : α × List Value → Prop} (h : ∀ p ∈ P, Q p) {a : α} {c : List Value} (hc : Q (a, c)) (i : Nat) : ∀ p ∈ P.take i ++ (a, c) :: P.drop i, Q p := by
  intro p hp
  rcases List.mem_append.1 hp with h' | h'
  · exact h p (List.mem_of_mem_take h')
  · rcases List.mem_cons.1 h' with h'' | h''
    · rw [h'']; exact hc
    · exact h p (List.mem_of_mem_drop h'')
theorem all_set {Q : α × List Value → Prop} (h : ∀ p ∈ P, Q p) {a : α} {c : List Value} (hc : Q (a, c)) (i : Nat) : ∀ p ∈ P.set i (a, c), Q p := by
  intro p hp
  rcases List.mem_or_eq_of_mem_set hp with h' | h'
  · exact h p h'
  · rw [h']; exact hc
/-- An element is put in at a place of a row that is the call's own. -/
theorem own_insP {w' : World} {B : Nat} {e : TypeId} {p j g cap : Nat} {a : α} {c : List Value} (h : w'.ownsRow B e k (.slice (some ⟨g, 0, none⟩) (j + (1 + (p - j))) cap) (j + (1 + (p - j))) ((pc P).take (j * k) ++ (c ++ (pc P).drop (j * k)))) (hk : PK k P) (hp : P.length = p) (hj : j ≤ p) :
    w'.ownsRow B e k (.slice (some ⟨g, 0, none⟩) (p + 1) cap) (p + 1) (pc (P.take j ++ (a, c) :: P.drop j)) := by
  rw [pc_ins, ← pc_take hk j, ← pc_drop hk j (by omega)]
  rw [show j + (1 + (p - j)) = p + 1 by omega] at h
  exact h
theorem own_insP_end {w' : World} {B : Nat} {e : TypeId} {j g cap : Nat} {a : α} {c : List Value} (h : w'.ownsRow B e k (.slice (some ⟨g, 0, none⟩) (j + 1) cap) (j + 1) ((pc P).take (j * k) ++ (c ++ (pc P).drop (j * k)))) (hk : PK k P) (hp : P.length = j) :
    w'.ownsRow B e k (.slice (some ⟨g, 0, none⟩) (j + 1) cap) (j + 1) (pc (P.take j ++ (a, c) :: P.drop j)) := by
  rw [pc_ins, ← pc_take hk j, ← pc_drop hk j (by omega)]
  exact h
/-- The cells of an element of a row that is the call's own. -/
theorem own_el {w : World} {B : Nat} {e : TypeId} {g n cap i : Nat} {p : α × List Value} (h : w.ownsRow B e k (.slice (some ⟨g, 0, none⟩) n cap) n (pc P)) (hk : PK k P) (hp : P[i]? = some p) (hi : i < n) : (∀ j u, p.2[j]? = some u → w.cell? ⟨g, i * k + j, none⟩ = some u) ∧ ∀ j, w.frozen? ⟨g, i * k + j, none⟩ = false := by
  obtain ⟨g', cap', e1, _, _, _, _, hc⟩ := own_some h (by omega)
  simp at e1
  obtain ⟨rfl, rfl⟩ := e1
  refine ⟨fun j u hu => ?_, fun j => h.frozenAt _⟩
  have hj : j < k := by
    have h1 := (List.getElem?_eq_some_iff.1 hu).1
    have h2 : p.2.length = k := hk p (List.mem_of_getElem? hp)
    omega
  exact hc _ _ (by rw [pc_get hk hp hj]; exact hu)
/-- An element of a row that is the call's own is written over. -/
theorem own_over {w : World} {B : Nat} {e : TypeId} {g n cap i : Nat} {a : α} {c : List Value} (h : w.ownsRow B e k (.slice (some ⟨g, 0, none⟩) n cap) n (pc P)) (hk : PK k P) (hi : i < P.length) (hc : c.length = k) : (setCells w g (i * k) c).ownsRow B e k (.slice (some ⟨g, 0, none⟩) n cap) n (pc (P.set i (a, c))) := by
  have := own_stores c w (i * k) (pc P) h
  rwa [pc_set hk hi hc] at this
end
end Go.Gh
