/-
  The walk of Wider.
-/
import Derived.Test.YtmbmognhbljliaaRoll5
import Derived.Test.YtmbmognhbljliaaCuts
import Derived.Test.YtmbmognhbljliaaBox7
namespace Go.Proofs.Ytmbmognhbljliaa.Roll
open Go.RowKit Go.Gh Go.Proofs.Ytmbmognhbljliaa.Smp
set_option linter.unusedVariables false

def lenOf : Value → Nat
  | .slice _ n _ => n
  | _ => 0
def AllGood (l : List (List Int)) : Prop := ∀ r ∈ l, goodT (rg r 0)
/-- What is left of l, and what out holds. -/
structure WRel (B : Nat) (l : List (List Int)) (width : Int) (rest acc : List (List Int)) (m : Nat) (w wr : World) (ul u : Value) : Prop where
  sl : Sl w 7 ul m (rowCells rest)
  len : rest.length = m
  rows : RowsK 7 rest
  good : AllGood rest
  own : wr.ownsRow B 92 7 u acc.length (rowCells acc)
  arows : RowsK 7 acc
  fold : foldW width [] l = foldW width acc rest
theorem mk7 (r : List Int) (h : r.length = 7) : ∃ a0 a1 a2 a3 a4 a5 a6 : Int, r = [a0, a1, a2, a3, a4, a5, a6] := row7 r h

theorem own_snoc {B p : Nat} {w : World} {v : Value} {acc : List (List Int)} {r : List Int} (h : w.ownsRow B 92 7 v (p + 1) (rowCells acc ++ r.map (Value.int .i64))) (hp : acc.length = p) : w.ownsRow B 92 7 v (acc ++ [r]).length (rowCells (acc ++ [r])) := by
  rw [rowCells_append, rowCells_one, List.length_append, hp]
  exact h
/-- What is left of l within one window, and the window. -/
structure IRel (B : Nat) (l : List (List Int)) (width st : Int) (bx p : Nat) (rest acc : List (List Int)) (one : List Int) (m : Nat) (w wx : World) (ul u : Value) : Prop where
  sl : Sl w 7 ul m (rowCells rest)
  len : rest.length = m
  rows : RowsK 7 rest
  good : AllGood rest
  own : wx.ownsRow B 92 7 u p (rowCells acc)
  box : wx.heap[bx]? = some (.cells (winA one) 92 (0, 0))
  one7 : one.length = 7
  same : rg one 0 = st
  fold : foldW width [] l = foldW width (acc ++ [one]) rest
set_option maxHeartbeats 2000000 in
set_option maxRecDepth 100000 in
theorem wider_any (v : Value) (n : Nat) (l : List (List Int)) (width : Int) (w : World) (hs : Sl w 7 v n (rowCells l)) (hl : l.length = n) (hr : RowsK 7 l) (hn : n ≤ 1000) :
    Calls Try.prog 28 #[v, .int .i64 width] w (FoldPost w (rolled l width)) := by
  obtain ⟨ao, c, rfl, hnc, hc, _⟩ := hs.shape
  have HL := Lib.hid hl
  by_cases hw1 : width < 1
  · have HF : Hid (rolled l width = ([], 1)) := if_pos (Or.inl hw1)
    clear hl
    go_enter Try.func28, Try.ntmps28
    go_wp2_with fail
    go_ret2
    exact foldPost_nil HF.out (Below.refl _ _)
  by_cases hw2 : 1099511627776 < width
  · have HF : Hid (rolled l width = ([], 1)) := if_pos (Or.inr hw2)
    clear hl
    go_enter Try.func28, Try.ntmps28
    go_wp2_with fail
    go_ret2
    exact foldPost_nil HF.out (Below.refl _ _)
  have hw3 : 1 ≤ width := by omega
  have hw4 : width ≤ 1099511627776 := by omega
  have HW : Hid (¬ (width < 1 ∨ 1099511627776 < width)) := by intro h; omega
  clear hl hw1 hw2
  go_enter Try.func28, Try.ntmps28
  go_wp2_with fail
  go_loopw [19] (fun i wr => ∃ k : Nat, k ≤ n ∧ i = .int .i64 k ∧ Below w.heap.size w wr ∧ Hid (allGood l k)) (fun i _ => n - (intOf i).toNat)
  case atStart => exact ⟨0, by omega, rfl, Below.refl _ _, fun i hi => by omega⟩
  case round =>
    obtain ⟨k, hk, rfl, hbr, hgood⟩ := hrel
    by_cases hlt : k < n
    · obtain ⟨b, off, rfl, hk1, hck⟩ := (hs.below hbr).rowk HL.out hr hlt
      obtain ⟨a0, a1, a2, a3, a4, a5, a6, ha⟩ := row7 _ hk1
      rw [ha] at hck
      have HA := Lib.hid ha
      clear ha hk1
      have c0 : _ = some (Value.int .i64 a0) := hck 0 (by decide)
      have c1 : _ = some (Value.int .i64 a1) := hck 1 (by decide)
      have c2 : _ = some (Value.int .i64 a2) := hck 2 (by decide)
      have c3 : _ = some (Value.int .i64 a3) := hck 3 (by decide)
      have c4 : _ = some (Value.int .i64 a4) := hck 4 (by decide)
      have c5 : _ = some (Value.int .i64 a5) := hck 5 (by decide)
      have c6 : _ = some (Value.int .i64 a6) := hck 6 (by decide)
      rw [Nat.add_zero] at c0
      clear hck
      by_cases hg1 : goodT a0
      · have HN : Hid (allGood l (k + 1)) := by
          intro i hi
          rcases Nat.lt_or_eq_of_le (Nat.le_of_lt_succ hi) with h' | h'
          · exact hgood.out i h'
          · rw [h', HA.out]
            exact hg1
        have HG1 : Hid (decide (goodT a0) = true) := decide_eq_true hg1
        clear hg1
        go_wp2_with (go_at_call 69; refine (goodtime_any a0 _).mono ?_; rw [HG1.out]; rintro e w' ⟨rfl, rfl⟩)
        go_roundw
        case rel => exact ⟨k + 1, by omega, by go_num, hbr.alloc hbr.size _, HN⟩
        case measure => simp [intOf]; omega
      · have HF : Hid (rolled l width = ([], 6)) := rolled_bad HW.out (by rw [HL.out]; exact hlt) (by rw [HA.out]; exact hg1)
        have HG1 : Hid (decide (goodT a0) = false) := decide_eq_false hg1
        clear hg1
        go_wp2_with (go_at_call 69; refine (goodtime_any a0 _).mono ?_; rw [HG1.out]; rintro e w' ⟨rfl, rfl⟩)
        go_ret2
        exact foldPost_nil HF.out (hbr.alloc hbr.size _)
    · obtain rfl : k = n := by omega
      have hsz := hbr.size
      clear hlt
      have HG : Hid (AllGood l) := by
        intro r hr'
        obtain ⟨i, hi, rfl⟩ := List.getElem_of_mem hr'
        have := hgood.out i (by rw [HL.out] at hi; exact hi)
        rwa [List.getD_eq_getElem?_getD, List.getElem?_eq_getElem hi] at this
      have HR : Hid (rolled l width = match foldW width [] l with
        | none => ([], 2)
        | some out => (out, 0)) := rolled_ok HW.out (by rw [HL.out]; exact hgood.out)
      clear hgood
      go_wp2_with fail
      obtain ⟨wo, rfl⟩ : ∃ wo : World, wo = wr := ⟨_, rfl⟩
      go_loopw [0, 8] (fun ul u wr => ∃ (m p : Nat) (rest acc : List (List Int)), Hid (WRel w.heap.size l width rest acc m w wr ul u) ∧ m + p ≤ 1000 ∧ Hid (acc.length = p) ∧ Hid (∀ o x r', acc.getLast? = some o → rest = x :: r' → rg o 0 ≠ startW (rg x 0) width) ∧ Below w.heap.size w wr) (fun ul _ _ => lenOf ul)
      case atStart => exact ⟨k, 0, l, [], ⟨hs, HL.out, hr, HG.out, World.ownsRow_nil _ _ _ _, by intro r hr; simp at hr, rfl⟩, by omega, rfl, by intro o x r' h; simp at h, hbr⟩
      case round =>
        obtain ⟨m, p, rest, acc, ⟨h1, h2, h3, h4, h5, h6, h7⟩, hmp, HP, HNX, hbel⟩ := hrel
        have hsz2 := hbel.size
        rw [HP.out] at h5
        have HM := Lib.hid h2
        have HRR := Lib.hid h3
        have HGG := Lib.hid h4
        have HAR := Lib.hid h6
        have HFD := Lib.hid h7
        clear h2 h3 h4 h6 h7
        obtain ⟨la, lc, rfl, hl1, hl2, _⟩ := h1.shape
        obtain ⟨ua, uc, rfl, hu1, hu2, _⟩ := own_shape h5
        by_cases hm0 : m = 0
        · subst hm0
          have HF : Hid (FoldPost w (rolled l width) (.returned (.tuple #[.slice ua p uc, .int .i64 0])) wr) := by
            have hnil : rest = [] := List.length_eq_zero_iff.1 HM.out
            have hf := HFD.out
            rw [hnil] at hf
            have : rolled l width = (acc, 0) := by rw [HR.out, hf]; rfl
            show FoldPost _ _ _ _
            rw [this]
            exact ⟨_, rfl, by rw [HP.out]; exact h5, hbel, HAR.out, by rw [HP.out]; omega⟩
          clear h1 h5
          go_wp2_with fail
          go_ret2
          exact HF.out
        · obtain ⟨q, rfl⟩ : ∃ q, m = q + 1 := ⟨m - 1, by omega⟩
          clear hm0
          obtain ⟨x, rest', hx⟩ : ∃ x r', rest = x :: r' := by
            cases rest with
            | nil => have := HM.out; simp at this
            | cons x r => exact ⟨x, r, rfl⟩
          subst hx
          obtain ⟨b, off, rfl, hk1, hck⟩ := (h1.below hbel).head HM.out HRR.out
          obtain ⟨a0, a1, a2, a3, a4, a5, a6, rfl⟩ := mk7 _ hk1
          clear hk1
          have c0 : _ = some (Value.int .i64 a0) := hck 0 (by decide)
          have c1 : _ = some (Value.int .i64 a1) := hck 1 (by decide)
          have c2 : _ = some (Value.int .i64 a2) := hck 2 (by decide)
          have c3 : _ = some (Value.int .i64 a3) := hck 3 (by decide)
          have c4 : _ = some (Value.int .i64 a4) := hck 4 (by decide)
          have c5 : _ = some (Value.int .i64 a5) := hck 5 (by decide)
          have c6 : _ = some (Value.int .i64 a6) := hck 6 (by decide)
          rw [Nat.add_zero] at c0
          clear hck
          have HT : Hid (goodT a0) := HGG.out _ (List.mem_cons_self ..)
          obtain ⟨st, hst⟩ : ∃ st, startW a0 width = st := ⟨_, rfl⟩
          have HST := Lib.hid hst
          clear hst
          have i0 : (0 : Int) < ((q + 1 : Nat) : Int) := by omega
          go_wp2_with (first
            | (go_at_call 70; refine (startof_any a0 width HT.out hw3 hw4 _).mono ?_; rw [HST.out]; rintro e w' ⟨rfl, rfl⟩)
            | (with_reducible refine wpList_tail (o := ⟨some 43, _, _, _, _, _⟩) elWin rfl rfl rfl h1 ?_; intro ta tc htl))
          rw [rowCells_tail (k := 7) (r := [a0, a1, a2, a3, a4, a5, a6]) rfl] at htl
          have hbelA := hbel.alloc hsz2 (Obj.cells #[.int .i64 st, .int .i64 a1, .int .i64 a2, .int .i64 a3, .int .i64 a4, .int .i64 a5, .int .i64 a6] 92)
          have hne : (Value.slice ua p uc).ownBlock ≠ some wr.heap.size := by
            intro h
            have := (h5.lt _ h).2
            omega
          have hI : IRel w.heap.size l width st wr.heap.size p rest' acc [st, a1, a2, a3, a4, a5, a6] q w (wr.alloc (Obj.cells #[.int .i64 st, .int .i64 a1, .int .i64 a2, .int .i64 a3, .int .i64 a4, .int .i64 a5, .int .i64 a6] 92)) (.slice ta q tc) (.slice ua p uc) :=
            ⟨htl, by have := HM.out; simpa using this, HRR.out.tail, fun r hr => HGG.out r (List.mem_cons_of_mem _ hr), h5.alloc _, heap_alloc_new wr _, rfl, rfl, by
              rw [HFD.out, fold_new width acc _ _ (fun o ho => HNX.out o _ _ ho rfl)]
              show foldW width (acc ++ [setT _ (startW a0 width)]) _ = _
              rw [HST.out]
              rfl⟩
          have HI := Lib.hid hI
          clear hI htl h1 h5 c0 c1 c2 c3 c4 c5 c6 HNX HRR HGG HM HFD
          have hBx : w.heap.size ≤ wr.heap.size := hsz2
          generalize hbx : wr.heap.size = bx at *
          have HBX := Lib.hid hbx
          clear hbx
          go_loopw [0] (fun ul wx => ∃ (m' : Nat) (rest : List (List Int)) (one : List Int), Hid (IRel w.heap.size l width st bx p rest acc one m' w wx ul (.slice ua p uc)) ∧ m' + (p + 1) ≤ 1000 ∧ m' ≤ q ∧ Below w.heap.size w wx) (fun ul _ => lenOf ul)
          case atStart => exact ⟨q, rest', _, HI, by omega, by omega, hbelA⟩
          case round =>
            obtain ⟨m', rest, one, ⟨h1, h2, h3, h4, h5, h6, h7, h8, h9⟩, hmp', hmq, hbelx⟩ := hrel
            have hsz3 := hbelx.size
            obtain ⟨o0, o1, o2, o3, o4, o5, o6, rfl⟩ := mk7 _ h7
            have h8' : o0 = st := h8
            have HO0 := Lib.hid h8'
            have HM := Lib.hid h2
            have HRR := Lib.hid h3
            have HGG := Lib.hid h4
            have HFD := Lib.hid h9
            clear h2 h3 h4 h7 h8 h8' h9
            obtain ⟨la, lc, rfl, hl1, hl2, _⟩ := h1.shape
            obtain ⟨⟨d0, d1, d2, d3, d4, d5, d6⟩, ⟨f0, f1, f2, f3, f4, f5, f6⟩⟩ := box_cells h6
            by_cases hm0 : m' = 0
            · subst hm0
              have hnil : rest = [] := List.length_eq_zero_iff.1 HM.out
              have HNY : Hid (∀ o x r', (acc ++ [[o0, o1, o2, o3, o4, o5, o6]]).getLast? = some o → rest = x :: r' → rg o 0 ≠ startW (rg x 0) width) := by
                intro o x r' _ h
                rw [hnil] at h; simp at h
              clear hnil f0 f1 f2 f3 f4 f5 f6
              go_wp2_with (at_builtin; refine append1p ([o0, o1, o2, o3, o4, o5, o6].map (Value.int .i64)) elWin rfl _ _ rfl h5 hbelx hsz3 rfl rfl rfl rfl (ints7 _) (by omega) (by omega) ?_; intro v' w3 hown3 hbel3 _)
              go_roundw
              case rel => exact ⟨0, p + 1, rest, acc ++ [[o0, o1, o2, o3, o4, o5, o6]], ⟨h1, HM.out, HRR.out, HGG.out, own_snoc hown3 HP.out, HAR.out.snoc rfl, HFD.out⟩, by omega, by show _ = _; rw [List.length_append, HP.out]; rfl, HNY.out, hbel3⟩
              case measure => simp [lenOf]; try omega
            · obtain ⟨q', rfl⟩ : ∃ q, m' = q + 1 := ⟨m' - 1, by omega⟩
              clear hm0
              obtain ⟨y, rest2, hy⟩ : ∃ x r', rest = x :: r' := by
                cases rest with
                | nil => have := HM.out; simp at this
                | cons x r => exact ⟨x, r, rfl⟩
              subst hy
              obtain ⟨b', off', rfl, hk1, hck⟩ := (h1.below hbelx).head HM.out HRR.out
              obtain ⟨y0, y1, y2, y3, y4, y5, y6, rfl⟩ := mk7 _ hk1
              clear hk1
              have e0 : _ = some (Value.int .i64 y0) := hck 0 (by decide)
              have e1 : _ = some (Value.int .i64 y1) := hck 1 (by decide)
              have e2 : _ = some (Value.int .i64 y2) := hck 2 (by decide)
              have e3 : _ = some (Value.int .i64 y3) := hck 3 (by decide)
              have e4 : _ = some (Value.int .i64 y4) := hck 4 (by decide)
              have e5 : _ = some (Value.int .i64 y5) := hck 5 (by decide)
              have e6 : _ = some (Value.int .i64 y6) := hck 6 (by decide)
              rw [Nat.add_zero] at e0
              clear hck
              have HT2 : Hid (goodT y0) := HGG.out _ (List.mem_cons_self ..)
              obtain ⟨st2, hst2⟩ : ∃ st, startW y0 width = st := ⟨_, rfl⟩
              have HST2 := Lib.hid hst2
              clear hst2
              have i2 : (0 : Int) < ((q' + 1 : Nat) : Int) := by omega
              by_cases hsame : st2 = st
              · have t1 : (st2 == st) = true := by simpa using hsame
                have HSAME := Lib.hid hsame
                clear hsame
                go_wp2_with (go_at_call 70; refine (startof_any y0 width HT2.out hw3 hw4 _).mono ?_; rw [HST2.out]; rintro e w' ⟨rfl, rfl⟩)
                obtain ⟨N, hN⟩ : ∃ N, IntKind.i64.wrap (o1 + y1) = N := ⟨_, rfl⟩
                have HN := Lib.hid hN
                clear hN
                obtain ⟨S, hS⟩ : ∃ S, IntKind.i64.wrap (o2 + y2) = S := ⟨_, rfl⟩
                have HS := Lib.hid hS
                clear hS
                go_upto_region 16 with (fail)
                go_cut [] (fun wx => BoxRel w.heap.size bx p acc [o0, N, S, min o3 y3, max o4 y4, o5, y6] w (.slice ua p uc) wx)
                case first =>
                  go_still_tail 4, (by kernel_rfl)
                  change wpList _ _ _ _ _ wr.drew
                  go_wp2_with (go_at_call 71; refine (together_any o0 o1 o2 o3 o4 o5 o6 y0 y1 y2 y3 y4 y5 y6 _).mono ?_; rw [HN.out, HS.out]; rintro e w2 ⟨rfl, hb2⟩; have hown2 : w2.ownsRow w.heap.size 92 7 (.slice ua p uc) p (rowCells acc) := own_below (by exact h5) hb2; have hbox2 : w2.heap[bx]? = some (.cells (winA [o0, o1, o2, o3, o4, o5, o6]) 92 (0, 0)) := (hb2.block bx (Array.getElem?_eq_some_iff.1 h6).1).trans h6; have hb3 : Below w.heap.size w w2 := (hbelx.drew).trans (hb2.mono hsz3); obtain ⟨⟨q0, q1, q2, q3, q4, q5, q6⟩, ⟨z0, z1, z2, z3, z4, z5, z6⟩⟩ := box_cells hbox2)
                  go_meet
                  exact box_chain hown2 hne hbox2 hb3 hBx
                case rest =>
                  obtain ⟨hown3, hbox3, hbel3⟩ := hcut
                  have k1 := (box_cells hbox3).1.2.1
                  have hst3 : st2 = startW y0 width := HST2.out.symm
                  have hsm : o0 = startW y0 width := by rw [HO0.out, ← HSAME.out]; exact hst3
                  by_cases hbig : 1000000000 < N
                  · have HF : Hid (rolled l width = ([], 2)) := by
                      show _ = _
                      rw [HR.out, HFD.out, fold_large width acc _ _ _ (by exact hsm) (by show 1000000000 < IntKind.i64.wrap (o1 + y1); rw [HN.out]; exact hbig)]
                    clear d0 d1 d2 d3 d4 d5 d6 f0 f1 f2 f3 f4 f5 f6 e0 e1 e2 e3 e4 e5 e6 hst3 hsm h1 h5 h6 t1
                    go_wp2_with fail
                    go_ret2
                    exact foldPost_nil HF.out hbel3
                  · have HFN : Hid (foldW width [] l = foldW width (acc ++ [[o0, N, S, min o3 y3, max o4 y4, o5, y6]]) rest2) := by
                      show _ = _
                      rw [HFD.out, fold_same width acc _ _ _ (by exact hsm) (by show ¬ 1000000000 < IntKind.i64.wrap (o1 + y1); rw [HN.out]; exact hbig)]
                      show foldW width (acc ++ [[o0, IntKind.i64.wrap (o1 + y1), IntKind.i64.wrap (o2 + y2), _, _, _, _]]) _ = _
                      rw [HN.out, HS.out]
                      rfl
                    clear d0 d1 d2 d3 d4 d5 d6 f0 f1 f2 f3 f4 f5 f6 e0 e1 e2 e3 e4 e5 e6 hst3 hsm h5 h6 t1
                    go_wp2_with (with_reducible refine wpList_tail (o := ⟨some 66, _, _, _, _, _⟩) elWin rfl rfl rfl h1 ?_; intro tb td htl2; rw [rowCells_tail (k := 7) (r := [y0, y1, y2, y3, y4, y5, y6]) rfl] at htl2)
                    go_roundw
                    case rel => exact ⟨q', rest2, _, ⟨htl2, by have := HM.out; simpa using this, HRR.out.tail, fun r hr => HGG.out r (List.mem_cons_of_mem _ hr), hown3, hbox3, rfl, HO0.out, HFN.out⟩, by omega, by omega, hbel3⟩
                    case measure => simp [lenOf]
              · have t1 : (st2 == st) = false := by simpa using hsame
                have HNY : Hid (∀ o x r', (acc ++ [[o0, o1, o2, o3, o4, o5, o6]]).getLast? = some o → [y0, y1, y2, y3, y4, y5, y6] :: rest2 = x :: r' → rg o 0 ≠ startW (rg x 0) width) := by
                  intro o x r' ho hx
                  rw [List.getLast?_append, List.getLast?_singleton] at ho
                  simp at ho
                  subst ho
                  simp at hx
                  rw [← hx.1]
                  show o0 ≠ startW y0 width
                  rw [HST2.out, HO0.out]
                  exact fun h => hsame h.symm
                clear hsame f0 f1 f2 f3 f4 f5 f6 e1 e2 e3 e4 e5 e6
                go_wp2_with (first | (go_at_call 70; refine (startof_any y0 width HT2.out hw3 hw4 _).mono ?_; rw [HST2.out]; rintro e w' ⟨rfl, rfl⟩) | (at_builtin; refine append1p ([o0, o1, o2, o3, o4, o5, o6].map (Value.int .i64)) elWin rfl _ _ rfl h5 hbelx hsz3 rfl rfl rfl rfl (ints7 _) (by omega) (by omega) ?_; intro v' w3 hown3 hbel3 _))
                go_roundw
                case rel => exact ⟨q' + 1, p + 1, _, acc ++ [[o0, o1, o2, o3, o4, o5, o6]], ⟨h1, HM.out, HRR.out, HGG.out, own_snoc hown3 HP.out, HAR.out.snoc rfl, HFD.out⟩, by omega, by show _ = _; rw [List.length_append, HP.out]; rfl, HNY.out, hbel3⟩
                case measure => simp [lenOf]; omega
end Go.Proofs.Ytmbmognhbljliaa.Roll
