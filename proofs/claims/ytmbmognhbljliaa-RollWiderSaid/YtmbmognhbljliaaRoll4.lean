/-
  The walk of roll.fold: windows whose starts fall together.
-/
import Derived.Test.YtmbmognhbljliaaRoll3
import Derived.Test.YtmbmognhbljliaaLib3
import Derived.StillTailTactics
namespace Go.Proofs.Ytmbmognhbljliaa.Roll
open Go.RowKit Go.Gh Go.Proofs.Ytmbmognhbljliaa.Smp
set_option linter.unusedVariables false

def FoldPost (w : World) (r : List (List Int) × Int) (e : Ending) (w' : World) : Prop := ∃ v', e = .returned (.tuple #[v', .int .i64 r.2]) ∧ w'.ownsRow w.heap.size 92 7 v' r.1.length (rowCells r.1) ∧ Below w.heap.size w w' ∧ RowsK 7 r.1 ∧ r.1.length ≤ 1000
theorem foldPost_nil {w w' : World} {c : Int} {r : List (List Int) × Int} (h : r = ([], c)) (hb : Below w.heap.size w w') : FoldPost w r (.returned (.tuple #[.slice none 0 0, .int .i64 c])) w' := by
  subst h
  exact ⟨_, rfl, World.ownsRow_nil _ _ _ _, hb, by intro r hr; simp at hr, by simp⟩
/-- What out holds after j windows. -/
def FoldRel (B : Nat) (l : List (List Int)) (width : Int) (j : Nat) (u : Value) (wr : World) : Prop := ∃ acc, acc.length ≤ j ∧ wr.ownsRow B 92 7 u acc.length (rowCells acc) ∧ RowsK 7 acc ∧ foldW width [] l = foldW width acc (l.drop j)
theorem rel_push {B m j : Nat} {l acc : List (List Int)} {width st a0 a1 a2 a3 a4 a5 a6 : Int} {v' : Value} {w1 : World} (hown : w1.ownsRow B 92 7 v' (m + 1) (rowCells acc ++ [st, a1, a2, a3, a4, a5, a6].map (Value.int .i64))) (hm : acc.length = m) (hmj : m ≤ j)
    (hA : l.getD j [] = [a0, a1, a2, a3, a4, a5, a6]) (hD : l.drop j = l.getD j [] :: l.drop (j + 1)) (hk : RowsK 7 acc) (hf : foldW width [] l = foldW width acc (l.drop j)) (hst : startW a0 width = st) (hne : ∀ o, acc.getLast? = some o → rg o 0 ≠ st) : FoldRel B l width (j + 1) v' w1 := by
  refine ⟨acc ++ [[st, a1, a2, a3, a4, a5, a6]], by simp; omega, ?_, ?_, ?_⟩
  · rw [rowCells_append, rowCells_one, List.length_append, hm]
    exact hown
  · intro r hr
    rcases List.mem_append.1 hr with h | h
    · exact hk r h
    · simp at h; subst h; rfl
  · rw [hf, hD, hA, fold_new width acc _ _ (by intro o ho; show rg o 0 ≠ startW a0 width; rw [hst]; exact hne o ho)]
    show foldW width (acc ++ [setT _ (startW a0 width)]) _ = _
    rw [hst]
    rfl
theorem getD_last (front : List (List Int)) (o : List Int) : (front ++ [o]).getD front.length [] = o := by
  rw [List.getD_eq_getElem?_getD, List.getElem?_append_right (Nat.le_refl _)]
  simp
theorem set_last (front : List (List Int)) (o r : List Int) : (front ++ [o]).set front.length r = front ++ [r] := by
  rw [List.set_append_right _ _ (Nat.le_refl _)]
  simp
def BothRel (B p g cap : Nat) (acc : List (List Int)) (row : List Int) (w wx : World) : Prop := wx.ownsRow B 92 7 (.slice (some ⟨g, 0, none⟩) (p + 1) cap) (p + 1) (rowCells (acc.set p row)) ∧ Below B w wx
theorem both_chain {B p g cap : Nat} {acc : List (List Int)} {N o0 o2 o3 o4 o5 a2 a3 a4 a6 : Int} {w w2 : World} (hown : w2.ownsRow B 92 7 (.slice (some ⟨g, 0, none⟩) (p + 1) cap) (p + 1) (rowCells acc)) (hk : RowsK 7 acc) (hl : acc.length = p + 1) (hg : B ≤ g) (hb : Below B w w2) :
    BothRel B p g cap acc [o0, N, IntKind.i64.wrap (o2 + a2), min o3 a3, max o4 a4, o5, a6] w (((((((w2.setCell ⟨g, p * 7, none⟩ (.int .i64 o0)).setCell ⟨g, p * 7 + 1, none⟩ (.int .i64 N)).setCell ⟨g, p * 7 + 2, none⟩ (.int .i64 (IntKind.i64.wrap (o2 + a2)))).setCell ⟨g, p * 7 + 3, none⟩ (.int .i64 (min o3 a3))).setCell ⟨g, p * 7 + 4, none⟩ (.int .i64 (max o4 a4))).setCell ⟨g, p * 7 + 5, none⟩ (.int .i64 o5)).setCell ⟨g, p * 7 + 6, none⟩ (.int .i64 a6)) := by
  have := own_stores ([o0, N, IntKind.i64.wrap (o2 + a2), min o3 a3, max o4 a4, o5, a6].map (Value.int .i64)) w2 (p * 7) _ hown
  rw [setFrom_row acc hk p (by omega) _ rfl] at this
  have h2 := below_stores hg ([o0, N, IntKind.i64.wrap (o2 + a2), min o3 a3, max o4 a4, o5, a6].map (Value.int .i64)) w2 (p * 7) hb
  simp only [List.map_cons, List.map_nil, setCells, Nat.add_assoc, Nat.reduceAdd] at this h2
  exact ⟨this, h2⟩
theorem rel_both {B p j g cap : Nat} {l acc front : List (List Int)} {width N o0 o1 o2 o3 o4 o5 o6 a0 a1 a2 a3 a4 a5 a6 : Int} {wx : World} (hown : wx.ownsRow B 92 7 (.slice (some ⟨g, 0, none⟩) (p + 1) cap) (p + 1) (rowCells (acc.set p [o0, N, IntKind.i64.wrap (o2 + a2), min o3 a3, max o4 a4, o5, a6]))) (hmj : p + 1 ≤ j) (hc : acc = front ++ [[o0, o1, o2, o3, o4, o5, o6]]) (hp : front.length = p)
    (hA : l.getD j [] = [a0, a1, a2, a3, a4, a5, a6]) (hD : l.drop j = l.getD j [] :: l.drop (j + 1)) (hk : RowsK 7 acc) (hf : foldW width [] l = foldW width acc (l.drop j)) (hst : startW a0 width = o0) (hN : IntKind.i64.wrap (o1 + a1) = N) (hle : ¬ 1000000000 < N) :
    FoldRel B l width (j + 1) (.slice (some ⟨g, 0, none⟩) (p + 1) cap) wx := by
  have hl : acc.length = p + 1 := by rw [hc]; simp [hp]
  have e : acc.set p [o0, N, IntKind.i64.wrap (o2 + a2), min o3 a3, max o4 a4, o5, a6] = front ++ [[o0, N, IntKind.i64.wrap (o2 + a2), min o3 a3, max o4 a4, o5, a6]] := by
    rw [hc, ← hp]; exact set_last _ _ _
  refine ⟨acc.set p [o0, N, IntKind.i64.wrap (o2 + a2), min o3 a3, max o4 a4, o5, a6], by simp; omega, ?_, ?_, ?_⟩
  · rw [List.length_set, hl]
    exact hown
  · intro r hr
    rw [e] at hr
    rcases List.mem_append.1 hr with h | h
    · exact hk r (by rw [hc]; exact List.mem_append_left _ h)
    · simp at h; subst h; rfl
  · rw [e, hf, hD, hA, hc, fold_same width front _ _ _ (by show o0 = startW a0 width; exact hst.symm) (by show ¬ 1000000000 < IntKind.i64.wrap (o1 + a1); rw [hN]; exact hle)]
    show foldW width (front ++ [[o0, IntKind.i64.wrap (o1 + a1), _, _, _, _, _]]) _ = _
    rw [hN]
    rfl
theorem fold_over {l acc front : List (List Int)} {j : Nat} {width N o0 o1 o2 o3 o4 o5 o6 a0 a1 a2 a3 a4 a5 a6 : Int} (hc : acc = front ++ [[o0, o1, o2, o3, o4, o5, o6]])
    (hA : l.getD j [] = [a0, a1, a2, a3, a4, a5, a6]) (hD : l.drop j = l.getD j [] :: l.drop (j + 1)) (hf : foldW width [] l = foldW width acc (l.drop j)) (hst : startW a0 width = o0) (hN : IntKind.i64.wrap (o1 + a1) = N) (hle : 1000000000 < N)
    (hr : rolled l width = match foldW width [] l with
        | none => ([], 2)
        | some out => (out, 0)) : rolled l width = ([], 2) := by
  rw [hr, hf, hD, hA, hc, fold_large width front _ _ _ (by show o0 = startW a0 width; exact hst.symm) (by show 1000000000 < IntKind.i64.wrap (o1 + a1); rw [hN]; exact hle)]
theorem both_cell {B p g cap : Nat} {acc : List (List Int)} {r0 N r2 r3 r4 r5 r6 : Int} {wx : World} (hown : wx.ownsRow B 92 7 (.slice (some ⟨g, 0, none⟩) (p + 1) cap) (p + 1) (rowCells (acc.set p [r0, N, r2, r3, r4, r5, r6]))) (hk : RowsK 7 acc) (hl : acc.length = p + 1) :
    wx.cell? ⟨g, p * 7 + 1, none⟩ = some (.int .i64 N) := by
  have hk' : RowsK 7 (acc.set p [r0, N, r2, r3, r4, r5, r6]) := by
    intro r hr
    rcases List.mem_or_eq_of_mem_set hr with h | h
    · exact hk r h
    · subst h; rfl
  have := (own_row hown hk' (by rw [List.length_set]; exact hl) (show p < p + 1 by omega) (show 1 < 7 by decide)).1
  have e : (acc.set p [r0, N, r2, r3, r4, r5, r6]).getD p [] = [r0, N, r2, r3, r4, r5, r6] := by
    rw [List.getD_eq_getElem?_getD, List.getElem?_set_self (by omega)]; rfl
  rw [e] at this
  exact this
theorem row_facts {w2 : World} {B g cap n p o0 o1 o2 o3 o4 o5 o6 : _} {acc : List (List Int)} (hown : w2.ownsRow B 92 7 (.slice (some ⟨g, 0, none⟩) n cap) n (rowCells acc)) (hk : RowsK 7 acc) (hm : acc.length = n) (hp : p < n) (hgo : acc.getD p [] = [o0, o1, o2, o3, o4, o5, o6]) :
    (w2.cell? ⟨g, p * 7, none⟩ = some (.int .i64 o0) ∧ w2.cell? ⟨g, p * 7 + 1, none⟩ = some (.int .i64 o1) ∧ w2.cell? ⟨g, p * 7 + 2, none⟩ = some (.int .i64 o2) ∧ w2.cell? ⟨g, p * 7 + 3, none⟩ = some (.int .i64 o3) ∧ w2.cell? ⟨g, p * 7 + 4, none⟩ = some (.int .i64 o4) ∧ w2.cell? ⟨g, p * 7 + 5, none⟩ = some (.int .i64 o5) ∧ w2.cell? ⟨g, p * 7 + 6, none⟩ = some (.int .i64 o6)) ∧ (w2.frozen? ⟨g, p * 7, none⟩ = false ∧ w2.frozen? ⟨g, p * 7 + 1, none⟩ = false ∧ w2.frozen? ⟨g, p * 7 + 2, none⟩ = false ∧ w2.frozen? ⟨g, p * 7 + 3, none⟩ = false ∧ w2.frozen? ⟨g, p * 7 + 4, none⟩ = false ∧ w2.frozen? ⟨g, p * 7 + 5, none⟩ = false ∧ w2.frozen? ⟨g, p * 7 + 6, none⟩ = false) := by
  have hrow := fun i (hi : i < 7) => own_row hown hk hm hp hi
  rw [hgo] at hrow
  exact ⟨⟨(hrow 0 (by decide)).1, (hrow 1 (by decide)).1, (hrow 2 (by decide)).1, (hrow 3 (by decide)).1, (hrow 4 (by decide)).1, (hrow 5 (by decide)).1, (hrow 6 (by decide)).1⟩, ⟨(hrow 0 (by decide)).2, (hrow 1 (by decide)).2, (hrow 2 (by decide)).2, (hrow 3 (by decide)).2, (hrow 4 (by decide)).2, (hrow 5 (by decide)).2, (hrow 6 (by decide)).2⟩⟩
def allGood (l : List (List Int)) (k : Nat) : Prop := ∀ i, i < k → goodT (rg (l.getD i []) 0)

set_option maxHeartbeats 2000000 in
set_option maxRecDepth 100000 in
theorem fold_any (v : Value) (n : Nat) (l : List (List Int)) (width : Int) (w : World) (hs : Sl w 7 v n (rowCells l)) (hl : l.length = n) (hr : RowsK 7 l) (hn : n ≤ 1000) :
    Calls Try.prog 68 #[v, .int .i64 width] w (FoldPost w (rolled l width)) := by
  obtain ⟨ao, c, rfl, hnc, hc, _⟩ := hs.shape
  have HL := Lib.hid hl
  by_cases hw1 : width < 1
  · have HF : Hid (rolled l width = ([], 1)) := if_pos (Or.inl hw1)
    clear hl
    go_enter Try.func68, Try.ntmps68
    go_wp2_with fail
    go_ret2
    exact foldPost_nil HF.out (Below.refl _ _)
  by_cases hw2 : 1099511627776 < width
  · have HF : Hid (rolled l width = ([], 1)) := if_pos (Or.inr hw2)
    clear hl
    go_enter Try.func68, Try.ntmps68
    go_wp2_with fail
    go_ret2
    exact foldPost_nil HF.out (Below.refl _ _)
  have hw3 : 1 ≤ width := by omega
  have hw4 : width ≤ 1099511627776 := by omega
  have HW : Hid (¬ (width < 1 ∨ 1099511627776 < width)) := by intro h; omega
  clear hl hw1 hw2
  go_enter Try.func68, Try.ntmps68
  go_wp2_with fail
  go_loopw [20] (fun i wr => ∃ k : Nat, k ≤ n ∧ i = .int .i64 k ∧ Below w.heap.size w wr ∧ Hid (allGood l k)) (fun i _ => n - (intOf i).toNat)
  case atStart => exact ⟨0, by omega, rfl, Below.refl _ _, fun i hi => by omega⟩
  case round =>
    obtain ⟨k, hk, rfl, hbr, hgood⟩ := hrel
    by_cases hlt : k < n
    · obtain ⟨b, off, rfl, hk1, hck⟩ := (hs.below hbr).rowk HL.out hr hlt
      obtain ⟨a0, a1, a2, a3, a4, a5, a6, ha⟩ := row7 _ hk1
      rw [ha] at hck
      have HA := Lib.hid ha
      clear ha hk1
      have c0 : _ = some (Value.int .i64 a0) := hck 0 (by decide)
      have c1 : _ = some (Value.int .i64 a1) := hck 1 (by decide)
      have c2 : _ = some (Value.int .i64 a2) := hck 2 (by decide)
      have c3 : _ = some (Value.int .i64 a3) := hck 3 (by decide)
      have c4 : _ = some (Value.int .i64 a4) := hck 4 (by decide)
      have c5 : _ = some (Value.int .i64 a5) := hck 5 (by decide)
      have c6 : _ = some (Value.int .i64 a6) := hck 6 (by decide)
      rw [Nat.add_zero] at c0
      clear hck
      by_cases hg1 : a0 < -1152921504606846976
      · have HF :Hid (rolled l width = ([], 6)) := rolled_bad HW.out (by rw [HL.out]; exact hlt) (by rw [HA.out]; show ¬ (-1152921504606846976 ≤ a0 ∧ a0 ≤ 1152921504606846976); omega)
        go_wp2_with fail
        go_ret2
        exact foldPost_nil HF.out (hbr.alloc hbr.size _)
      by_cases hg2 : 1152921504606846976 < a0
      · have HF :Hid (rolled l width = ([], 6)) := rolled_bad HW.out (by rw [HL.out]; exact hlt) (by rw [HA.out]; show ¬ (-1152921504606846976 ≤ a0 ∧ a0 ≤ 1152921504606846976); omega)
        go_wp2_with fail
        go_ret2
        exact foldPost_nil HF.out (hbr.alloc hbr.size _)
      have HN : Hid (allGood l (k + 1)) := by
        intro i hi
        rcases Nat.lt_or_eq_of_le (Nat.le_of_lt_succ hi) with h' | h'
        · exact hgood.out i h'
        · rw [h', HA.out]
          show -1152921504606846976 ≤ a0 ∧ a0 ≤ 1152921504606846976
          omega
      go_wp2_with fail
      go_roundw
      case rel => exact ⟨k + 1, by omega, by go_num, hbr.alloc hbr.size _, HN⟩
      case measure => simp [intOf]; omega
    · obtain rfl : k = n := by omega
      have hsz := hbr.size
      clear hlt
      have HG : Hid (∀ i, i < k → goodT (rg (l.getD i []) 0)) := hgood.out
      have HR : Hid (rolled l width = match foldW width [] l with
        | none => ([], 2)
        | some out => (out, 0)) := rolled_ok HW.out (by rw [HL.out]; exact HG.out)
      clear hgood
      go_wp2_with fail
      obtain ⟨wo, rfl⟩ : ∃ wo : World, wo = wr := ⟨_, rfl⟩
      go_loopw [8, 35] (fun u i wr => ∃ (j : Nat), j ≤ k ∧ i = .int .i64 j ∧ FoldRel w.heap.size l width j u wr ∧ Below w.heap.size w wr) (fun _ i _ => k - (intOf i).toNat)
      case atStart => exact ⟨0, by omega, rfl, ⟨[], by simp, World.ownsRow_nil _ _ _ _, by intro r hr; simp at hr, rfl⟩, hbr⟩
      case round =>
        obtain ⟨j, hj, rfl, ⟨acc, hal, hown, hacc, hfold⟩, hbel⟩ := hrel
        have hsz2 := hbel.size
        obtain ⟨m, hm⟩ : ∃ m, acc.length = m := ⟨_, rfl⟩
        rw [hm] at hown hal
        have HM := Lib.hid hm
        have HK := Lib.hid hacc
        have HFD := Lib.hid hfold
        clear hm hacc hfold
        obtain ⟨ua, uc, rfl, hu1, hu2, _⟩ := own_shape hown
        by_cases hlt : j < k
        · obtain ⟨b, off, rfl, hk1, hck⟩ := (hs.below hbel).rowk HL.out hr hlt
          have hgt := HG.out j hlt
          have HD := Lib.hid (drop_getD (l := l) (k := j) (by rw [HL.out]; exact hlt))
          obtain ⟨a0, a1, a2, a3, a4, a5, a6, ha⟩ := row7 _ hk1
          rw [ha] at hck hgt
          have HA := Lib.hid ha
          clear ha hk1
          have c0 : _ = some (Value.int .i64 a0) := hck 0 (by decide)
          have c1 : _ = some (Value.int .i64 a1) := hck 1 (by decide)
          have c2 : _ = some (Value.int .i64 a2) := hck 2 (by decide)
          have c3 : _ = some (Value.int .i64 a3) := hck 3 (by decide)
          have c4 : _ = some (Value.int .i64 a4) := hck 4 (by decide)
          have c5 : _ = some (Value.int .i64 a5) := hck 5 (by decide)
          have c6 : _ = some (Value.int .i64 a6) := hck 6 (by decide)
          rw [Nat.add_zero] at c0
          clear hck
          have hgt' : goodT a0 := hgt
          have HT := Lib.hid hgt'
          clear hgt hgt'
          generalize hst : startW a0 width = st
          have HST := Lib.hid hst
          clear hst
          have hbelA := hbel.alloc hsz2 (Obj.cells #[.int .i64 st, .int .i64 a1, .int .i64 a2, .int .i64 a3, .int .i64 a4, .int .i64 a5, .int .i64 a6] 92)
          by_cases hm0 : m = 0
          · subst hm0
            have HNE : Hid (∀ o, acc.getLast? = some o → rg o 0 ≠ st) := by
              intro o ho
              have : acc = [] := List.length_eq_zero_iff.1 HM.out
              subst this
              simp at ho
            go_wp2_with (go_at_call 85; refine (start_any a0 width HT.out hw3 hw4 _).mono ?_; rintro e w' ⟨rfl, rfl⟩; rw [HST.out])
            go_quiet (fail)
            go_wp2_with (at_builtin; refine append1p ([st, a1, a2, a3, a4, a5, a6].map (Value.int .i64)) elWin rfl _ _ rfl (hown.alloc _) (below_drewN hbelA nq) ?c1 rfl rfl ?c0 rfl (ints7 _) ?c2 ?c3 ?_)
            case c0 => simp
            case c1 => simp; omega
            case c2 => omega
            case c3 => omega
            intro v' w1 hown' hbel' _
            have HREL : Hid (FoldRel w.heap.size l width (j + 1) v' w1) := rel_push hown' HM.out (by omega) HA.out HD.out HK.out HFD.out HST.out HNE.out
            clear hown hbel hbelA c0 c1 c2 c3 c4 c5 c6 hown'
            go_wp2
            go_roundw
            case rel => exact ⟨j + 1, by omega, by go_num, HREL.out, hbel'⟩
            case measure => simp [intOf]; omega
          · obtain ⟨p, rfl⟩ : ∃ p, m = p + 1 := ⟨m - 1, by omega⟩
            obtain ⟨g, cap, hv, hg1, hg2, hc1, hc2, _⟩ := own_some hown (by omega)
            simp only [Value.slice.injEq, true_and] at hv
            obtain ⟨rfl, rfl⟩ := hv
            obtain ⟨front, o, hcat⟩ : ∃ front o, acc = front ++ [o] := by
              rcases List.eq_nil_or_concat acc with h | ⟨f, o, h⟩
              · have := HM.out; rw [h] at this; simp at this
              · exact ⟨f, o, by simpa using h⟩
            have hfl : front.length = p := by have := HM.out; rw [hcat] at this; simpa using this
            have ho7 := HK.out o (by rw [hcat]; simp)
            have hgo : acc.getD p [] = o := by rw [hcat, ← hfl]; exact getD_last front o
            obtain ⟨o0, o1, o2, o3, o4, o5, o6, rfl⟩ := row7 _ ho7
            obtain ⟨⟨d0, d1, d2, d3, d4, d5, d6⟩, -⟩ := row_facts hown HK.out HM.out (Nat.lt_succ_self p) hgo
            have HGO := Lib.hid hgo
            have HC := Lib.hid hcat
            have HFL := Lib.hid hfl
            clear hcat hfl hgo ho7 hm0
            have i1 : ((p + 1 : Nat) : Int) - 1 = (p : Int) := by omega
            have i2 : ((p : Int) < 0) = False := by simp
            by_cases hsame : o0 = st
            · subst hsame
              have t1 : (o0 != o0) = false := by simp
              go_wp2_with (go_at_call 85; refine (start_any a0 width HT.out hw3 hw4 _).mono ?_; rintro e w' ⟨rfl, rfl⟩; rw [HST.out])
              go_quiet (fail)
              go_wp2_with fail
              have i3 : (p : Int) < (p : Int) + 1 := by omega
              obtain ⟨N, hN⟩ : ∃ N, IntKind.i64.wrap (o1 + a1) = N := ⟨_, rfl⟩
              have HN := Lib.hid hN
              clear hN
              have hbN := below_drewN hbelA nq
              go_upto_region 17 with (fail)
              go_cut [] (fun wx => BothRel w.heap.size p g uc acc [o0, N, IntKind.i64.wrap (o2 + a2), min o3 a3, max o4 a4, o5, a6] w wx)
              case first =>
                go_region_law (first | (go_simp; go_at_call 79; refine (both_any o0 o1 o2 o3 o4 o5 o6 o0 a1 a2 a3 a4 a5 a6 _).mono ?_; rw [HN.out]; rintro e w2 ⟨rfl, hb2⟩; have hown2 : w2.ownsRow w.heap.size 92 7 (.slice (some ⟨g, 0, none⟩) (p + 1) uc) (p + 1) (rowCells acc) := own_below (by exact hown.alloc _) hb2; obtain ⟨⟨q0, q1, q2, q3, q4, q5, q6⟩, ⟨z0, z1, z2, z3, z4, z5, z6⟩⟩ := row_facts hown2 HK.out HM.out (Nat.lt_succ_self p) HGO.out))
                all_goals (go_wp2_with fail; go_meet)
                all_goals exact both_chain hown2 HK.out HM.out hg1 ((below_drewN hbelA _).trans (hb2.mono (by simp; omega)))
              case rest =>
                obtain ⟨hown3, hbel3⟩ := hcut
                have k1 := both_cell hown3 HK.out HM.out
                by_cases hbig : 1000000000 < N
                · have HF : Hid (rolled l width = ([], 2)) := fold_over HC.out HA.out HD.out HFD.out HST.out HN.out hbig HR.out
                  clear c0 c1 c2 c3 c4 c5 c6 d0 d1 d2 d3 d4 d5 d6
                  go_wp2_with fail
                  go_ret2
                  exact foldPost_nil HF.out hbel3
                · have HREL : Hid (FoldRel w.heap.size l width (j + 1) _ _) := rel_both hown3 hal HC.out HFL.out HA.out HD.out HK.out HFD.out HST.out HN.out hbig
                  clear c0 c1 c2 c3 c4 c5 c6 d0 d1 d2 d3 d4 d5 d6
                  go_wp2_with fail
                  go_roundw
                  case rel => exact ⟨j + 1, by omega, by go_num, HREL.out, hbel3⟩
                  case measure => simp [intOf]; omega
            · have HNE : Hid (∀ o, acc.getLast? = some o → rg o 0 ≠ st) := by
                intro o ho
                rw [HC.out, List.getLast?_append, List.getLast?_singleton] at ho
                simp at ho
                subst ho
                exact hsame
              have t1 : (o0 != st) = true := by rw [bne_iff_ne]; exact hsame
              go_wp2_with (go_at_call 85; refine (start_any a0 width HT.out hw3 hw4 _).mono ?_; rintro e w' ⟨rfl, rfl⟩; rw [HST.out])
              go_quiet (fail)
              go_wp2_with (at_builtin; refine append1p ([st, a1, a2, a3, a4, a5, a6].map (Value.int .i64)) elWin rfl _ _ rfl (hown.alloc _) (below_drewN hbelA nq) ?c1 rfl rfl ?c0 rfl (ints7 _) ?c2 ?c3 ?_)
              case c0 => simp
              case c1 => simp; omega
              case c2 => omega
              case c3 => omega
              intro v' w1 hown' hbel' _
              have HREL : Hid (FoldRel w.heap.size l width (j + 1) v' w1) := rel_push hown' HM.out (by omega) HA.out HD.out HK.out HFD.out HST.out HNE.out
              clear hown hbel hbelA c0 c1 c2 c3 c4 c5 c6 hown' d0
              go_wp2
              go_roundw
              case rel => exact ⟨j + 1, by omega, by go_num, HREL.out, hbel'⟩
              case measure => simp [intOf]; omega
        · obtain rfl : j = k := by omega
          have HF : Hid (rolled l width = (acc, 0)) := by
            have h := HFD.out
            rw [List.drop_of_length_le (by rw [HL.out]; omega)] at h
            show _ = _
            rw [HR.out, h]
            rfl
          have HFIN : Hid (FoldPost w (rolled l width) (.returned (.tuple #[.slice ua m uc, .int .i64 0])) wr) := by
            show FoldPost _ _ _ _
            rw [HF.out]
            exact ⟨_, rfl, by rw [HM.out]; exact hown, hbel, HK.out, by rw [HM.out]; omega⟩
          clear hown
          go_wp2_with fail
          go_ret2
          exact HFIN.out
end Go.Proofs.Ytmbmognhbljliaa.Roll
