/-
  The walk of Beside.
-/
import Derived.Test.YtmbmognhbljliaaRoll4
import Derived.Test.YtmbmognhbljliaaLib6
namespace Go.Proofs.Ytmbmognhbljliaa.Roll
open Go.RowKit Go.Gh Go.Proofs.Ytmbmognhbljliaa.Smp
set_option linter.unusedVariables false
def bigW (r : List Int) : Bool := decide (1000000000 < rg r 1)
theorem rows_ones (l : List (List Int)) : ∀ u ∈ rowCells l, u.oneCell' = true := by
  intro u hu
  unfold rowCells at hu
  obtain ⟨r, _, hr⟩ := List.mem_flatMap.1 hu
  exact ints7 r u hr
theorem rows_drop (l : List (List Int)) (i : Nat) : ∀ u ∈ (rowCells l).drop i, u.oneCell' = true := fun u hu => rows_ones l u (List.mem_of_mem_drop hu)
def BesRel (B : Nat) (l m : List (List Int)) (k p : Nat) (acc : List (List Int)) (bad : Bool) (u : Value) (wr : World) : Prop := wr.ownsRow B 92 7 u p (rowCells acc) ∧ acc.length = p ∧ RowsK 7 acc ∧ besTo bothW bigW l m k = (acc, bad)
def BothAt (B p g cap j : Nat) (acc : List (List Int)) (row : List Int) (w wx : World) : Prop := wx.ownsRow B 92 7 (.slice (some ⟨g, 0, none⟩) p cap) p (rowCells (acc.set j row)) ∧ Below B w wx
theorem both_at {B p g cap j : Nat} {acc : List (List Int)} {n0 n1 n2 n3 n4 n5 n6 : Int} {w w2 : World} (hown : w2.ownsRow B 92 7 (.slice (some ⟨g, 0, none⟩) p cap) p (rowCells acc)) (hk : RowsK 7 acc) (hl : acc.length = p) (hj : j < p) (hg : B ≤ g) (hb : Below B w w2) :
    BothAt B p g cap j acc [n0, n1, n2, n3, n4, n5, n6] w (((((((w2.setCell ⟨g, j * 7, none⟩ (.int .i64 n0)).setCell ⟨g, j * 7 + 1, none⟩ (.int .i64 n1)).setCell ⟨g, j * 7 + 2, none⟩ (.int .i64 n2)).setCell ⟨g, j * 7 + 3, none⟩ (.int .i64 n3)).setCell ⟨g, j * 7 + 4, none⟩ (.int .i64 n4)).setCell ⟨g, j * 7 + 5, none⟩ (.int .i64 n5)).setCell ⟨g, j * 7 + 6, none⟩ (.int .i64 n6)) := by
  have := own_stores ([n0, n1, n2, n3, n4, n5, n6].map (Value.int .i64)) w2 (j * 7) _ hown
  rw [setFrom_row acc hk j (by omega) _ rfl] at this
  have h2 := below_stores hg ([n0, n1, n2, n3, n4, n5, n6].map (Value.int .i64)) w2 (j * 7) hb
  simp only [List.map_cons, List.map_nil, setCells, Nat.add_assoc, Nat.reduceAdd] at this h2
  exact ⟨this, h2⟩
theorem set_getD {acc : List (List Int)} {j : Nat} {r : List Int} (hj : j < acc.length) : (acc.set j r).getD j [] = r := by
  rw [List.getD_eq_getElem?_getD, List.getElem?_set_self hj]; rfl
set_option maxHeartbeats 4000000 in
set_option maxRecDepth 100000 in
theorem beside_any (v u : Value) (n o : Nat) (l m : List (List Int)) (w : World) (hs : Sl w 7 v n (rowCells l)) (ht : Sl w 7 u o (rowCells m)) (hl : l.length = n) (hm : m.length = o) (hrl : RowsK 7 l) (hrm : RowsK 7 m) (hn : n ≤ 1000) (ho : o ≤ 1000) :
    Calls Try.prog 52 #[v, u] w (FoldPost w (besideR bothW bigW l m)) := by
  obtain ⟨ao, c, rfl, hnc, hc, _⟩ := hs.shape
  obtain ⟨bo, d, rfl, hod, hd, _⟩ := ht.shape
  have HL := Lib.hid hl
  have HM := Lib.hid hm
  clear hl hm
  go_enter Try.func52, Try.ntmps52
  go_wp2_with (at_builtin; refine wpList_append_copy elWin rfl _ _ rfl rfl rfl hs (rows_ones _) (by omega) (by omega) (Below.refl _ _) (Nat.le_refl _) ?_; intro v1 w1 hown1 hb1)
  go_loopw [6, 7, 9, 10, 15] (fun u ue _ _ i wr => ∃ (k p : Nat) (acc : List (List Int)) (bad : Bool) (e : Int), k ≤ o ∧ p ≤ n + k ∧ i = .int .i64 k ∧ ue = .int .i64 e ∧ Hid (BesRel w.heap.size l m k p acc bad u wr) ∧ Hid (e = if bad = true then 2 else 0) ∧ Below w.heap.size w wr) (fun _ _ _ _ i _ => o - (intOf i).toNat)
  case atStart => exact ⟨0, n, l, false, 0, by omega, by omega, rfl, rfl, ⟨hown1, HL.out, hrl, besTo_zero _ _ _ _⟩, Lib.hid rfl, hb1⟩
  case round =>
    obtain ⟨k, p, acc, bad, e, hk, hp, rfl, rfl, ⟨hown, hac, hak, hbes⟩, HBAD, hbel⟩ := hrel
    have hsz := hbel.size
    have HAC := Lib.hid hac
    have HAK := Lib.hid hak
    have HBE := Lib.hid hbes
    clear hac hak hbes
    by_cases hlt : k < o
    · obtain ⟨b, off, rfl, hk1, hck⟩ := (ht.below hbel).rowk HM.out hrm hlt
      obtain ⟨a0, a1, a2, a3, a4, a5, a6, hx⟩ := row7 _ hk1
      rw [hx] at hck
      have c0 : _ = some (Value.int .i64 a0) := hck 0 (by decide)
      have c1 : _ = some (Value.int .i64 a1) := hck 1 (by decide)
      have c2 : _ = some (Value.int .i64 a2) := hck 2 (by decide)
      have c3 : _ = some (Value.int .i64 a3) := hck 3 (by decide)
      have c4 : _ = some (Value.int .i64 a4) := hck 4 (by decide)
      have c5 : _ = some (Value.int .i64 a5) := hck 5 (by decide)
      have c6 : _ = some (Value.int .i64 a6) := hck 6 (by decide)
      rw [Nat.add_zero] at c0
      have HX := Lib.hid hx
      clear hck hk1 hx
      have hbelA := hbel.alloc hsz (Obj.cells #[.int .i64 a0, .int .i64 a1, .int .i64 a2, .int .i64 a3, .int .i64 a4, .int .i64 a5, .int .i64 a6] 92)
      go_wp2_with fail
      obtain ⟨ua, uc, rfl, hpc, hcm, _⟩ := own_shape hown
      have hboxA : (wr.alloc (Obj.cells #[.int .i64 a0, .int .i64 a1, .int .i64 a2, .int .i64 a3, .int .i64 a4, .int .i64 a5, .int .i64 a6] 92)).heap[wr.heap.size]? = some (Obj.cells #[.int .i64 a0, .int .i64 a1, .int .i64 a2, .int .i64 a3, .int .i64 a4, .int .i64 a5, .int .i64 a6] 92 (0, 0)) := heap_alloc_new wr _
      have hownA := hown.alloc (Obj.cells #[.int .i64 a0, .int .i64 a1, .int .i64 a2, .int .i64 a3, .int .i64 a4, .int .i64 a5, .int .i64 a6] 92)
      generalize hwA : wr.alloc (Obj.cells #[.int .i64 a0, .int .i64 a1, .int .i64 a2, .int .i64 a3, .int .i64 a4, .int .i64 a5, .int .i64 a6] 92) = wA at *
      have hszA : wA.heap.size = wr.heap.size + 1 := by rw [← hwA]; simp
      have HSZ := Lib.hid hszA
      clear hwA hszA hown c0 c1 c2 c3 c4 c5 c6
      generalize hbx : wr.heap.size = bx at *
      have hbw : w.heap.size ≤ bx := by rw [← hbx]; exact hbel.size
      clear hbx
      go_loopw [10] (fun i wx => ∃ j : Nat, j ≤ p ∧ i = .int .i64 j ∧ Hid (Ahead acc [a0, a1, a2, a3, a4, a5, a6] j) ∧ ∃ q, wx = wA.drewN q) (fun i _ => p - (intOf i).toNat)
      case atStart => exact ⟨0, by omega, rfl, Lib.hid (Ahead.zero _ _), 0, rfl⟩
      case round =>
        obtain ⟨j, hj, rfl, hahead, q, rfl⟩ := hrel
        have y0 : wA.cell? ⟨bx, 0, none⟩ = some (.int .i64 a0) := (row_cell 0 _ hboxA rfl).1
        have y1 : wA.cell? ⟨bx, 1, none⟩ = some (.int .i64 a1) := (row_cell 1 _ hboxA rfl).1
        have y2 : wA.cell? ⟨bx, 2, none⟩ = some (.int .i64 a2) := (row_cell 2 _ hboxA rfl).1
        have y3 : wA.cell? ⟨bx, 3, none⟩ = some (.int .i64 a3) := (row_cell 3 _ hboxA rfl).1
        have y4 : wA.cell? ⟨bx, 4, none⟩ = some (.int .i64 a4) := (row_cell 4 _ hboxA rfl).1
        have y5 : wA.cell? ⟨bx, 5, none⟩ = some (.int .i64 a5) := (row_cell 5 _ hboxA rfl).1
        have y6 : wA.cell? ⟨bx, 6, none⟩ = some (.int .i64 a6) := (row_cell 6 _ hboxA rfl).1
        by_cases hjp : j < p
        · obtain ⟨g, cap, e', hg1, hg2, hg3, hg4, _⟩ := own_some hownA (by omega)
          simp at e'
          obtain ⟨rfl, rfl⟩ := e'
          obtain ⟨o0, o1, o2, o3, o4, o5, o6, hxy⟩ := row7 (acc.getD j []) (HAK.out _ (by rw [getD_at (by rw [HAC.out]; exact hjp)]; exact List.getElem_mem _))
          obtain ⟨⟨d0, d1, d2, d3, d4, d5, d6⟩, -⟩ := row_facts hownA HAK.out HAC.out hjp hxy
          have HXY := Lib.hid hxy
          clear hxy
          by_cases hXT : o0 < a0
          · have HN : Hid (Ahead acc [a0, a1, a2, a3, a4, a5, a6] (j + 1)) := Lib.hid (hahead.out.succ (by rw [HAC.out]; exact hjp) (by rw [HXY.out]; exact hXT))
            go_wp2_with fail
            go_quiet (fail)
            go_wp2
            go_roundw
            case rel => exact ⟨j + 1, by omega, by go_num, HN, _, rfl⟩
            case measure => simp [intOf]; omega
          · have hge : a0 ≤ o0 := by omega
            clear hXT
            have jq1 : (o0 < a0) = False := eq_false (by omega)
            by_cases hTX : a0 < o0
            · have HNE : Hid (besTo bothW bigW l m (k + 1) = (acc.take j ++ [a0, a1, a2, a3, a4, a5, a6] :: acc.drop j, bad)) := Lib.hid (besTo_ins (by rw [HM.out]; exact hlt) HX.out HBE.out hahead.out (fun _ => by rw [HXY.out]; exact hTX))
              have jq2 : (o0 == a0) = false := beq_eq_false_iff_ne.2 (by omega)
              have hju : j ≤ uc := by omega
              have huj : (uc = j) = False := eq_false (by omega)
              have hprt := own_parts hownA (i := j) (by omega)
              rw [if_neg (by omega)] at hprt
              obtain ⟨hpa, hpb⟩ := hprt
              have q1 : (1 + (p - j)) * 56 ≤ 140737488355328 := by omega
              have q2 : 1 + (p - j) ≤ 9223372036854775807 := by omega
              have q3 : 0 < 1 + (p - j) := by omega
              have q4 : (j + (1 + (p - j))) * 56 ≤ 140737488355328 := by omega
              have q5 : j + (1 + (p - j)) ≤ 9223372036854775807 := by omega
              clear d1 d2 d3 d4 d5 d6
              go_wp2_with fail
              go_quiet (fail)
              go_wp2_with fail
              go_quiet (fail)
              go_wp2_with fail
              go_region_law (first
                | (refine step_append_lit ([a0, a1, a2, a3, a4, a5, a6].map (Value.int .i64)) elWin rfl _ _ rfl rfl rfl (by exact hpb) rfl (rows_drop _ _) q1 q2 ?_; intro g2 cap2 w2 hown2 hb2; have hbq : Below wA.heap.size wA w2 := (below_drewN (Below.refl _ wA) _).trans hb2; have hprt2 := hpa.below hbq; have hbel2 := hbelA.trans (hbq.mono hbelA.size))
                | (refine step_append_full elWin rfl _ _ rfl _ _ _ rfl hprt2 _ _ _ _ rfl (own_sl hown2) q3 q4 q5 hbel2 hbel2.size ?_; intro cap3 w3 hown3 hbel3 _))
              all_goals
                have HREL : Hid (BesRel w.heap.size l m (k + 1) (p + 1) (acc.take j ++ [a0, a1, a2, a3, a4, a5, a6] :: acc.drop j) bad (.slice (some ⟨w2.heap.size, 0, none⟩) (p + 1) cap3) w3) := ⟨own_ins (hown3 _ hbel2.size) HAK.out HAC.out hj, by rw [ins_len (by rw [HAC.out]; omega), HAC.out], HAK.out.ins rfl j, HNE.out⟩
                have hjpe : j + (1 + (p - j)) = p + 1 := by omega
                clear hown3 hown2 hprt2
                rw [hjpe]
                go_wp2_with fail
                go_roundw
                case rel => exact ⟨k + 1, p + 1, _, bad, e, by omega, by omega, by go_num, rfl, HREL, HBAD, hbel3⟩
                case measure => simp [intOf]; omega
            · obtain rfl : o0 = a0 := by omega
              obtain ⟨N, hN⟩ : ∃ N, IntKind.i64.wrap (o1 + a1) = N := ⟨_, rfl⟩
              have HN := Lib.hid hN
              clear hN
              have jq2 : (o0 == o0) = true := by simp
              have HBO : Hid (besTo bothW bigW l m (k + 1) = (acc.set j [o0, N, IntKind.i64.wrap (o2 + a2), min o3 a3, max o4 a4, o5, a6], bad || decide (1000000000 < N))) := by
                show _ = _
                rw [besTo_both (by rw [HM.out]; exact hlt) HX.out HBE.out hahead.out (by rw [HAC.out]; exact hjp) HXY.out rfl]
                show (acc.set j [o0, IntKind.i64.wrap (o1 + a1), _, _, _, _, _], bad || decide (1000000000 < IntKind.i64.wrap (o1 + a1))) = _
                rw [HN.out]
                rfl
              go_wp2_with fail
              go_quiet (fail)
              go_wp2_with fail
              go_quiet (fail)
              go_upto_region 10 with (fail)
              go_cut [] (fun wx => BothAt w.heap.size p g uc j acc [o0, N, IntKind.i64.wrap (o2 + a2), min o3 a3, max o4 a4, o5, a6] w wx)
              case first =>
                go_region_law (first | (go_simp; go_at_call 71; refine (together_any o0 o1 o2 o3 o4 o5 o6 o0 a1 a2 a3 a4 a5 a6 _).mono ?_; rw [HN.out]; rintro e w2 ⟨rfl, hb2⟩; have hbq : Below wA.heap.size wA w2 := (below_drewN (Below.refl _ wA) _).trans hb2; have hown2 : w2.ownsRow w.heap.size 92 7 (.slice (some ⟨g, 0, none⟩) p uc) p (rowCells acc) := own_below hownA hbq; obtain ⟨⟨q0, q1, q2, q3, q4, q5, q6⟩, ⟨z0, z1, z2, z3, z4, z5, z6⟩⟩ := row_facts hown2 HAK.out HAC.out hjp HXY.out))
                all_goals (go_wp2_with fail; go_meet)
                all_goals exact both_at hown2 HAK.out HAC.out hjp hg1 (hbelA.trans (hbq.mono hbelA.size))
              case rest =>
                obtain ⟨hown3, hbel3⟩ := hcut
                have hk3 := HAK.out.set (y := [o0, N, IntKind.i64.wrap (o2 + a2), min o3 a3, max o4 a4, o5, a6]) rfl j
                have hl3 : (acc.set j [o0, N, IntKind.i64.wrap (o2 + a2), min o3 a3, max o4 a4, o5, a6]).length = p := by rw [List.length_set, HAC.out]
                have k1 := (row_facts hown3 hk3 hl3 hjp (set_getD (by rw [HAC.out]; exact hjp))).1.2.1
                clear d0 d1 d2 d3 d4 d5 d6 y0 y1 y2 y3 y4 y5 y6
                by_cases hbig : 1000000000 < N
                · have HREL : Hid (BesRel w.heap.size l m (k + 1) p _ (bad || true) (.slice (some ⟨g, 0, none⟩) p uc) wc) := ⟨hown3, hl3, hk3, by rw [HBO.out, decide_eq_true hbig]⟩
                  go_wp2_with fail
                  go_roundw
                  case rel => exact ⟨k + 1, p, _, _, 2, by omega, by omega, by go_num, rfl, HREL, Lib.hid (by rw [Bool.or_true]; rfl), hbel3⟩
                  case measure => simp [intOf]; omega
                · have HREL : Hid (BesRel w.heap.size l m (k + 1) p _ bad (.slice (some ⟨g, 0, none⟩) p uc) wc) := ⟨hown3, hl3, hk3, by rw [HBO.out, decide_eq_false hbig, Bool.or_false]⟩
                  go_wp2_with fail
                  go_roundw
                  case rel => exact ⟨k + 1, p, _, _, e, by omega, by omega, by go_num, rfl, HREL, HBAD, hbel3⟩
                  case measure => simp [intOf]; omega
        · obtain rfl : j = p := by omega
          clear hjp
          have HNE : Hid (besTo bothW bigW l m (k + 1) = (acc.take j ++ [a0, a1, a2, a3, a4, a5, a6] :: acc.drop j, bad)) := Lib.hid (besTo_ins (by rw [HM.out]; exact hlt) HX.out HBE.out hahead.out (fun h => by rw [HAC.out] at h; omega))
          have q1 : (1 + 0) * 56 ≤ 140737488355328 := by decide
          have q2 : 1 + 0 ≤ 9223372036854775807 := by decide
          have q3 : 0 < 1 + 0 := by decide
          have q4 : (j + (1 + 0)) * 56 ≤ 140737488355328 := by omega
          have q5 : j + (1 + 0) ≤ 9223372036854775807 := by omega
          rcases own_end hownA with ⟨rfl, rfl, rfl, hpa, hpb⟩ | ⟨g, rfl, hpa, ⟨rfl, hpb⟩ | ⟨hne, hpb⟩⟩
          · clear hpc
            go_wp2_with fail
            go_quiet (fail)
            go_wp2_with fail
            go_quiet (fail)
            go_wp2_with fail
            go_region_law (first
              | (refine step_append_lit ([a0, a1, a2, a3, a4, a5, a6].map (Value.int .i64)) elWin rfl _ _ rfl rfl rfl (by exact hpb) rfl (rows_drop _ _) q1 q2 ?_; intro g2 cap2 w2 hown2 hb2; have hbq : Below wA.heap.size wA w2 := (below_drewN (Below.refl _ wA) _).trans hb2; have hprt2 := hpa.below hbq; have hbel2 := hbelA.trans (hbq.mono hbelA.size))
              | (refine step_append_full elWin rfl _ _ rfl _ _ _ rfl hprt2 _ _ _ _ rfl (own_sl hown2) q3 q4 q5 hbel2 hbel2.size ?_; intro cap3 w3 hown3 hbel3 _))
            all_goals
              have HREL : Hid (BesRel w.heap.size l m (k + 1) (0 + 1) (acc.take 0 ++ [a0, a1, a2, a3, a4, a5, a6] :: acc.drop 0) bad (.slice (some ⟨w2.heap.size, 0, none⟩) (0 + 1) cap3) w3) := ⟨own_ins_end (hown3 _ hbel2.size) HAK.out HAC.out, by rw [ins_len (by rw [HAC.out]; exact Nat.le_refl _), HAC.out], HAK.out.ins rfl 0, HNE.out⟩
              clear hown3 hown2 hprt2
              go_wp2_with fail
              go_roundw
              case rel => exact ⟨k + 1, 0 + 1, _, bad, e, by omega, by omega, by go_num, rfl, HREL, HBAD, hbel3⟩
              case measure => simp [intOf]; omega
          · have hg1 : w.heap.size ≤ g := (hownA.lt g rfl).1
            go_wp2_with fail
            go_quiet (fail)
            go_wp2_with fail
            go_quiet (fail)
            go_wp2_with fail
            go_region_law (first
              | (refine step_append_lit ([a0, a1, a2, a3, a4, a5, a6].map (Value.int .i64)) elWin rfl _ _ rfl rfl rfl (by exact hpb) rfl (rows_drop _ _) q1 q2 ?_; intro g2 cap2 w2 hown2 hb2; have hbq : Below wA.heap.size wA w2 := (below_drewN (Below.refl _ wA) _).trans hb2; have hprt2 := hpa.below hbq; have hbel2 := hbelA.trans (hbq.mono hbelA.size))
              | (refine step_append_full elWin rfl _ _ rfl _ _ _ rfl hprt2 _ _ _ _ rfl (own_sl hown2) q3 q4 q5 hbel2 hbel2.size ?_; intro cap3 w3 hown3 hbel3 _))
            all_goals
              have HREL : Hid (BesRel w.heap.size l m (k + 1) (uc + 1) (acc.take uc ++ [a0, a1, a2, a3, a4, a5, a6] :: acc.drop uc) bad (.slice (some ⟨w2.heap.size, 0, none⟩) (uc + 1) cap3) w3) := ⟨own_ins_end (hown3 _ hbel2.size) HAK.out HAC.out, by rw [ins_len (by rw [HAC.out]; exact Nat.le_refl _), HAC.out], HAK.out.ins rfl uc, HNE.out⟩
              clear hown3 hown2 hprt2
              go_wp2_with fail
              go_roundw
              case rel => exact ⟨k + 1, uc + 1, _, bad, e, by omega, by omega, by go_num, rfl, HREL, HBAD, hbel3⟩
              case measure => simp [intOf]; omega
          · have hg1 : w.heap.size ≤ g := (hownA.lt g rfl).1
            have huj : (uc = j) = False := eq_false hne
            go_wp2_with fail
            go_quiet (fail)
            go_wp2_with fail
            go_quiet (fail)
            go_wp2_with fail
            go_region_law (first
              | (refine step_append_lit ([a0, a1, a2, a3, a4, a5, a6].map (Value.int .i64)) elWin rfl _ _ rfl rfl rfl (by exact hpb) rfl (rows_drop _ _) q1 q2 ?_; intro g2 cap2 w2 hown2 hb2; have hbq : Below wA.heap.size wA w2 := (below_drewN (Below.refl _ wA) _).trans hb2; have hprt2 := hpa.below hbq; have hbel2 := hbelA.trans (hbq.mono hbelA.size))
              | (refine step_append_full elWin rfl _ _ rfl _ _ _ rfl hprt2 _ _ _ _ rfl (own_sl hown2) q3 q4 q5 hbel2 hbel2.size ?_; intro cap3 w3 hown3 hbel3 _))
            all_goals
              have HREL : Hid (BesRel w.heap.size l m (k + 1) (j + 1) (acc.take j ++ [a0, a1, a2, a3, a4, a5, a6] :: acc.drop j) bad (.slice (some ⟨w2.heap.size, 0, none⟩) (j + 1) cap3) w3) := ⟨own_ins_end (hown3 _ hbel2.size) HAK.out HAC.out, by rw [ins_len (by rw [HAC.out]; exact Nat.le_refl _), HAC.out], HAK.out.ins rfl j, HNE.out⟩
              clear hown3 hown2 hprt2
              go_wp2_with fail
              go_roundw
              case rel => exact ⟨k + 1, j + 1, _, bad, e, by omega, by omega, by go_num, rfl, HREL, HBAD, hbel3⟩
              case measure => simp [intOf]; omega
    · obtain rfl : k = o := by omega
      have hfin : besF bothW bigW l false m = (acc, bad) := by rw [← besTo_all bothW bigW HM.out]; exact HBE.out
      obtain ⟨ua, uc, rfl, hpc, hcm, _⟩ := own_shape hown
      by_cases hq : bad = true ∨ 1000 < p
      · have HF : Hid (besideR bothW bigW l m = ([], 2)) := by
          show _ = _
          unfold besideR
          rw [hfin, if_pos]
          rw [HAC.out]
          exact hq
        have he : e = 2 ∨ (e = 0 ∧ 1000 < p) := by
          have := HBAD.out
          rcases hq with h | h
          · left; rw [this, if_pos h]
          · cases bad with
            | true => left; rw [this]; rfl
            | false => right; exact ⟨by rw [this]; rfl, h⟩
        clear hown hfin hq
        rcases he with rfl | ⟨rfl, hbig⟩
        · go_wp2_with fail
          go_ret2
          exact foldPost_nil HF.out hbel
        · go_wp2_with fail
          go_ret2
          exact foldPost_nil HF.out hbel
      · have hb0 : bad = false := by cases bad with
          | true => exact absurd (Or.inl rfl) hq
          | false => rfl
        have hp2 : p ≤ 1000 := Nat.le_of_not_lt fun h => hq (Or.inr h)
        have he : e = 0 := by have := HBAD.out; rw [this, hb0]; rfl
        subst he
        have HFIN : Hid (FoldPost w (besideR bothW bigW l m) (.returned (.tuple #[.slice ua p uc, .int .i64 0])) wr) := by
          show FoldPost _ _ _ _
          have : besideR bothW bigW l m = (acc, 0) := by
            unfold besideR
            rw [hfin, if_neg]
            rw [HAC.out]
            exact hq
          rw [this]
          exact ⟨_, rfl, by rw [HAC.out]; exact hown, hbel, HAK.out, by rw [HAC.out]; omega⟩
        clear hown hfin hq hb0
        go_wp2_with fail
        go_ret2
        exact HFIN.out
end Go.Proofs.Ytmbmognhbljliaa.Roll
