/-
  The walk of MergedSamples.
-/
import Derived.Test.YtmbmognhbljliaaSmpEl
import Derived.Test.YtmbmognhbljliaaLib6
namespace Go.Proofs.Ytmbmognhbljliaa.Sam
open Go.RowKit Go.Gh
set_option linter.unusedVariables false
def bothS (x y : List Int) : List Int := [rg x 0, max (rg x 1) (rg y 1)]
def bigS (r : List Int) : Bool := false
def MrgRel (B : Nat) (l m : List (List Int)) (k p : Nat) (acc : List (List Int)) (u : Value) (wr : World) : Prop := wr.ownsRow B 90 2 u p (rowCells acc) ∧ acc.length = p ∧ RowsK 2 acc ∧ ∃ bad, besTo bothS bigS l m k = (acc, bad)
theorem rows_drop (l : List (List Int)) (i : Nat) : ∀ u ∈ (rowCells l).drop i, u.oneCell' = true := fun u hu => rows_one l u (List.mem_of_mem_drop hu)
set_option maxHeartbeats 2000000 in
set_option maxRecDepth 100000 in
theorem merged_any (v u : Value) (n o : Nat) (l m : List (List Int)) (w : World) (hs : Sl w 2 v n (rowCells l)) (ht : Sl w 2 u o (rowCells m)) (hl : l.length = n) (hm : m.length = o) (hrl : RowsK 2 l) (hrm : RowsK 2 m) (hn : n ≤ 1000) (ho : o ≤ 1000) :
    Calls Try.prog 35 #[v, u] w fun e w' => ∃ v', e = .returned v' ∧ Hid (w'.ownsRow w.heap.size 90 2 v' (besF bothS bigS l false m).1.length (rowCells (besF bothS bigS l false m).1) ∧ RowsK 2 (besF bothS bigS l false m).1 ∧ (besF bothS bigS l false m).1.length ≤ 2000) ∧ Below w.heap.size w w' := by
  obtain ⟨ao, c, rfl, hnc, hc, _⟩ := hs.shape
  obtain ⟨bo, d, rfl, hod, hd, _⟩ := ht.shape
  have HL := Lib.hid hl
  have HM := Lib.hid hm
  clear hl hm
  go_enter Try.func35, Try.ntmps35
  go_wp2_with (at_builtin; refine wpList_append_copy elSmp rfl _ _ rfl rfl rfl hs (rows_one _) (by omega) (by omega) (Below.refl _ _) (Nat.le_refl _) ?_; intro v1 w1 hown1 hb1)
  go_loopw [5, 7, 8, 13] (fun u _ _ i wr => ∃ (k p : Nat) (acc : List (List Int)), k ≤ o ∧ p ≤ n + k ∧ i = .int .i64 k ∧ Hid (MrgRel w.heap.size l m k p acc u wr) ∧ Below w.heap.size w wr) (fun _ _ _ i _ => o - (intOf i).toNat)
  case atStart => exact ⟨0, n, l, by omega, by omega, rfl, ⟨hown1, HL.out, hrl, false, besTo_zero _ _ _ _⟩, hb1⟩
  case round =>
    obtain ⟨k, p, acc, hk, hp, rfl, ⟨hown, hac, hak, bad, hbes⟩, hbel⟩ := hrel
    have hsz := hbel.size
    have HAC := Lib.hid hac
    have HAK := Lib.hid hak
    have HBE := Lib.hid hbes
    clear hac hak hbes
    by_cases hlt : k < o
    · obtain ⟨b, off, rfl, hk1, hck⟩ := (ht.below hbel).rowk HM.out hrm hlt
      obtain ⟨T, V, hx⟩ := row2 _ hk1
      rw [hx] at hck
      have c0 : _ = some (Value.int .i64 T) := hck 0 (by decide)
      have c1 : _ = some (Value.int .i64 V) := hck 1 (by decide)
      rw [Nat.add_zero] at c0
      have HX := Lib.hid hx
      clear hck hk1 hx
      have hbelA := hbel.alloc hsz (Obj.cells #[.int .i64 T, .int .i64 V] 90)
      go_wp2_with fail
      obtain ⟨ua, uc, rfl, hpc, hcm, _⟩ := own_shape hown
      have hboxA : (wr.alloc (Obj.cells #[.int .i64 T, .int .i64 V] 90)).heap[wr.heap.size]? = some (.cells #[.int .i64 T, .int .i64 V] 90 (0, 0)) := heap_alloc_new wr _
      have hownA := hown.alloc (Obj.cells #[.int .i64 T, .int .i64 V] 90)
      generalize hwA : wr.alloc (Obj.cells #[.int .i64 T, .int .i64 V] 90) = wA at *
      have hszA : wA.heap.size = wr.heap.size + 1 := by rw [← hwA]; simp
      have HSZ := Lib.hid hszA
      clear hwA hszA hown
      generalize hbx : wr.heap.size = bx at *
      have hbw : w.heap.size ≤ bx := by rw [← hbx]; exact hbel.size
      clear hbx
      go_loopw [8] (fun i wx => ∃ j : Nat, j ≤ p ∧ i = .int .i64 j ∧ Hid (Ahead acc [T, V] j) ∧ ∃ q, wx = wA.drewN q) (fun i _ => p - (intOf i).toNat)
      case atStart => exact ⟨0, by omega, rfl, Lib.hid (Ahead.zero _ _), 0, rfl⟩
      case round =>
        obtain ⟨j, hj, rfl, hahead, q, rfl⟩ := hrel
        have hb0 : wA.cell? ⟨bx, 0, none⟩ = some (.int .i64 T) := (row_cell 0 _ hboxA rfl).1
        have hb1' : wA.cell? ⟨bx, 1, none⟩ = some (.int .i64 V) := (row_cell 1 _ hboxA rfl).1
        by_cases hjp : j < p
        · obtain ⟨g, cap, e, hg1, hg2, hg3, hg4, _⟩ := own_some hownA (by omega)
          simp at e
          obtain ⟨rfl, rfl⟩ := e
          obtain ⟨X, Y, hxy⟩ := row2 (acc.getD j []) (HAK.out _ (by rw [getD_at (by rw [HAC.out]; exact hjp)]; exact List.getElem_mem _))
          have x0 : wA.cell? ⟨g, j * 2, none⟩ = some (.int .i64 X) := by
            have := (own_row hownA HAK.out HAC.out hjp (j := 0) (by decide)).1
            rw [hxy] at this
            exact this
          have x1 : wA.cell? ⟨g, j * 2 + 1, none⟩ = some (.int .i64 Y) := by
            have := (own_row hownA HAK.out HAC.out hjp (j := 1) (by decide)).1
            rw [hxy] at this
            exact this
          have HXY := Lib.hid hxy
          clear hxy
          by_cases hXT : X < T
          · have HN : Hid (Ahead acc [T, V] (j + 1)) := Lib.hid (hahead.out.succ (by rw [HAC.out]; exact hjp) (by rw [HXY.out]; exact hXT))
            go_wp2_with fail
            go_quiet (fail)
            go_wp2
            go_roundw
            case rel => exact ⟨j + 1, by omega, by go_num, HN, _, rfl⟩
            case measure => simp [intOf]; omega
          · have hge : T ≤ X := by omega
            clear hXT
            have jq : ((j : Int) == (p : Int)) = false := beq_eq_false_iff_ne.2 (by omega)
            have jq1 : (X < T) = False := eq_false (by omega)
            by_cases hTX : T < X
            · have HNE : Hid (besTo bothS bigS l m (k + 1) = (acc.take j ++ [T, V] :: acc.drop j, bad)) := Lib.hid (besTo_ins (by rw [HM.out]; exact hlt) HX.out HBE.out hahead.out (fun _ => by rw [HXY.out]; exact hTX))
              have hju : j ≤ uc := by omega
              have q1 : (1 + (p - j)) * 16 ≤ 140737488355328 := by omega
              have q2 : 1 + (p - j) ≤ 9223372036854775807 := by omega
              have q3 : 0 < 1 + (p - j) := by omega
              have q4 : (j + (1 + (p - j))) * 16 ≤ 140737488355328 := by omega
              have q5 : j + (1 + (p - j)) ≤ 9223372036854775807 := by omega
              have huj : (uc = j) = False := eq_false (by omega)
              have hprt := own_parts hownA (i := j) (by omega)
              rw [if_neg (by omega)] at hprt
              go_wp2_with fail
              go_quiet (fail)
              go_wp2_with fail
              have jq2 : decide (T < X) = true := decide_eq_true hTX
              go_quiet (fail)
              go_wp2_with fail
              go_region_law (first
                | (refine step_append_lit ([T, V].map (Value.int .i64)) elSmp rfl _ _ rfl rfl rfl (by exact hprt.2) rfl (rows_drop _ _) q1 q2 ?_; intro g2 cap2 w2 hown2 hb2; have hbq : Below wA.heap.size wA w2 := (below_drewN (Below.refl _ wA) _).trans hb2; have hprt2 := hprt.1.below hbq; have hbel2 := hbelA.trans (hbq.mono hbelA.size))
                | (refine step_append_full elSmp rfl _ _ rfl _ _ _ rfl hprt2 _ _ _ _ rfl (own_sl hown2) q3 q4 q5 hbel2 hbel2.size ?_; intro cap3 w3 hown3 hbel3 _))
              all_goals
                have HREL : Hid (MrgRel w.heap.size l m (k + 1) (p + 1) (acc.take j ++ [T, V] :: acc.drop j) (.slice (some ⟨w2.heap.size, 0, none⟩) (p + 1) cap3) w3) := ⟨own_ins (hown3 _ hbel2.size) HAK.out HAC.out hj, by rw [ins_len (by rw [HAC.out]; exact hj), HAC.out], HAK.out.ins rfl j, bad, HNE.out⟩
                have hjpe : j + (1 + (p - j)) = p + 1 := by omega
                clear hown3 hown2 hprt hprt2
                rw [hjpe]
                go_wp2_with fail
                go_roundw
                case rel => exact ⟨k + 1, p + 1, _, by omega, by omega, by go_num, HREL, hbel3⟩
                case measure => simp [intOf]; omega
            · obtain rfl : X = T := by omega
              have HBO : Hid (besTo bothS bigS l m (k + 1) = (acc.set j (bothS [X, Y] [X, V]), bad || bigS (bothS [X, Y] [X, V]))) := Lib.hid (besTo_both (by rw [HM.out]; exact hlt) HX.out HBE.out hahead.out (by rw [HAC.out]; exact hjp) HXY.out rfl)
              have z1 : wA.frozen? ⟨g, j * 2 + 1, none⟩ = false := (own_row hownA HAK.out HAC.out hjp (j := 1) (by decide)).2
              have jq2 : decide (X < X) = false := decide_eq_false hTX
              go_wp2_with fail
              go_quiet (fail)
              go_wp2_with fail
              go_quiet (fail)
              go_wp2_with fail
              by_cases hYV : Y < V
              · have hst := (hownA.stored (j * 2 + 1) (.int .i64 V)).1
                rw [rowCells_set HAK.out (by rw [HAC.out]; exact hjp) (by decide) V] at hst
                have hmx : bothS [X, Y] [X, V] = (acc.getD j []).set 1 V := by
                  rw [HXY.out]
                  show [X, max Y V] = [X, V]
                  rw [Int.max_def, if_pos (by omega)]
                have HST : Hid (MrgRel w.heap.size l m (k + 1) p (acc.set j (bothS [X, Y] [X, V])) (.slice (some ⟨g, 0, none⟩) p uc) (wA.setCell ⟨g, j * 2 + 1, none⟩ (.int .i64 V))) := ⟨by rw [hmx]; exact hst, by rw [List.length_set, HAC.out], HAK.out.set rfl j, _, HBO.out⟩
                have hbS : ∀ q, Below w.heap.size w ((wA.drewN q).setCell ⟨g, j * 2 + 1, none⟩ (.int .i64 V)) := fun q => (below_drewN hbelA q).setCell (p := ⟨g, j * 2 + 1, none⟩) hg1 _
                clear hst hmx
                go_quiet (fail)
                go_wp2_with fail
                go_roundw
                case rel => exact ⟨k + 1, p, _, by omega, by omega, by go_num, HST, hbS _⟩
                case measure => simp [intOf]; omega
              · have hmx : bothS [X, Y] [X, V] = [X, Y] := by
                  show [X, max Y V] = [X, Y]
                  rw [Int.max_def]
                  split
                  · rw [show V = Y by omega]
                  · rfl
                have HST : Hid (MrgRel w.heap.size l m (k + 1) p acc (.slice (some ⟨g, 0, none⟩) p uc) wA) := ⟨hownA, HAC.out, HAK.out, _, by rw [HBO.out, hmx, set_self (by rw [HAC.out]; exact hjp) HXY.out]⟩
                clear hmx
                go_quiet (fail)
                go_wp2_with fail
                go_roundw
                case rel => exact ⟨k + 1, p, _, by omega, by omega, by go_num, HST, below_drewN hbelA _⟩
                case measure => simp [intOf]; omega
        · obtain rfl : j = p := by omega
          clear hjp
          have jq : ((j : Int) == (j : Int)) = true := by simp
          have HNE : Hid (besTo bothS bigS l m (k + 1) = (acc.take j ++ [T, V] :: acc.drop j, bad)) := Lib.hid (besTo_ins (by rw [HM.out]; exact hlt) HX.out HBE.out hahead.out (fun h => by rw [HAC.out] at h; omega))
          have q1 : (1 + 0) * 16 ≤ 140737488355328 := by decide
          have q2 : 1 + 0 ≤ 9223372036854775807 := by decide
          have q3 : 0 < 1 + 0 := by decide
          have q4 : (j + (1 + 0)) * 16 ≤ 140737488355328 := by omega
          have q5 : j + (1 + 0) ≤ 9223372036854775807 := by omega
          rcases own_end hownA with ⟨rfl, rfl, rfl, hpa, hpb⟩ | ⟨g, rfl, hpa, ⟨rfl, hpb⟩ | ⟨hne, hpb⟩⟩
          · clear hpc
            go_wp2_with fail
            go_quiet (fail)
            go_wp2_with fail
            go_quiet (fail)
            go_wp2_with fail
            go_region_law (first
              | (refine step_append_lit ([T, V].map (Value.int .i64)) elSmp rfl _ _ rfl rfl rfl (by exact hpb) rfl (rows_drop _ _) q1 q2 ?_; intro g2 cap2 w2 hown2 hb2; have hbq : Below wA.heap.size wA w2 := (below_drewN (Below.refl _ wA) _).trans hb2; have hprt2 := hpa.below hbq; have hbel2 := hbelA.trans (hbq.mono hbelA.size))
              | (refine step_append_full elSmp rfl _ _ rfl _ _ _ rfl hprt2 _ _ _ _ rfl (own_sl hown2) q3 q4 q5 hbel2 hbel2.size ?_; intro cap3 w3 hown3 hbel3 _))
            all_goals
              have HREL : Hid (MrgRel w.heap.size l m (k + 1) (0 + 1) (acc.take 0 ++ [T, V] :: acc.drop 0) (.slice (some ⟨w2.heap.size, 0, none⟩) (0 + 1) cap3) w3) := ⟨own_ins_end (hown3 _ hbel2.size) HAK.out HAC.out, by rw [ins_len (by rw [HAC.out]; exact Nat.le_refl _), HAC.out], HAK.out.ins rfl 0, bad, HNE.out⟩
              clear hown3 hown2 hprt2
              go_wp2_with fail
              go_roundw
              case rel => exact ⟨k + 1, 0 + 1, _, by omega, by omega, by go_num, HREL, hbel3⟩
              case measure => simp [intOf]; omega
          · have hg1 : w.heap.size ≤ g := (hownA.lt g rfl).1
            go_wp2_with fail
            go_quiet (fail)
            go_wp2_with fail
            go_quiet (fail)
            go_wp2_with fail
            go_region_law (first
              | (refine step_append_lit ([T, V].map (Value.int .i64)) elSmp rfl _ _ rfl rfl rfl (by exact hpb) rfl (rows_drop _ _) q1 q2 ?_; intro g2 cap2 w2 hown2 hb2; have hbq : Below wA.heap.size wA w2 := (below_drewN (Below.refl _ wA) _).trans hb2; have hprt2 := hpa.below hbq; have hbel2 := hbelA.trans (hbq.mono hbelA.size))
              | (refine step_append_full elSmp rfl _ _ rfl _ _ _ rfl hprt2 _ _ _ _ rfl (own_sl hown2) q3 q4 q5 hbel2 hbel2.size ?_; intro cap3 w3 hown3 hbel3 _))
            all_goals
              have HREL : Hid (MrgRel w.heap.size l m (k + 1) (uc + 1) (acc.take uc ++ [T, V] :: acc.drop uc) (.slice (some ⟨w2.heap.size, 0, none⟩) (uc + 1) cap3) w3) := ⟨own_ins_end (hown3 _ hbel2.size) HAK.out HAC.out, by rw [ins_len (by rw [HAC.out]; exact Nat.le_refl _), HAC.out], HAK.out.ins rfl uc, bad, HNE.out⟩
              clear hown3 hown2 hprt2
              go_wp2_with fail
              go_roundw
              case rel => exact ⟨k + 1, uc + 1, _, by omega, by omega, by go_num, HREL, hbel3⟩
              case measure => simp [intOf]; omega
          · have hg1 : w.heap.size ≤ g := (hownA.lt g rfl).1
            have huj : (uc = j) = False := eq_false hne
            go_wp2_with fail
            go_quiet (fail)
            go_wp2_with fail
            go_quiet (fail)
            go_wp2_with fail
            go_region_law (first
              | (refine step_append_lit ([T, V].map (Value.int .i64)) elSmp rfl _ _ rfl rfl rfl (by exact hpb) rfl (rows_drop _ _) q1 q2 ?_; intro g2 cap2 w2 hown2 hb2; have hbq : Below wA.heap.size wA w2 := (below_drewN (Below.refl _ wA) _).trans hb2; have hprt2 := hpa.below hbq; have hbel2 := hbelA.trans (hbq.mono hbelA.size))
              | (refine step_append_full elSmp rfl _ _ rfl _ _ _ rfl hprt2 _ _ _ _ rfl (own_sl hown2) q3 q4 q5 hbel2 hbel2.size ?_; intro cap3 w3 hown3 hbel3 _))
            all_goals
              have HREL : Hid (MrgRel w.heap.size l m (k + 1) (j + 1) (acc.take j ++ [T, V] :: acc.drop j) (.slice (some ⟨w2.heap.size, 0, none⟩) (j + 1) cap3) w3) := ⟨own_ins_end (hown3 _ hbel2.size) HAK.out HAC.out, by rw [ins_len (by rw [HAC.out]; exact Nat.le_refl _), HAC.out], HAK.out.ins rfl j, bad, HNE.out⟩
              clear hown3 hown2 hprt2
              go_wp2_with fail
              go_roundw
              case rel => exact ⟨k + 1, j + 1, _, by omega, by omega, by go_num, HREL, hbel3⟩
              case measure => simp [intOf]; omega
    · obtain rfl : k = o := by omega
      have hfin : besF bothS bigS l false m = (acc, bad) := by rw [← besTo_all bothS bigS HM.out]; exact HBE.out
      have HOWN := Lib.hid hown
      have HFIN : Hid (wr.ownsRow w.heap.size 90 2 u5 (besF bothS bigS l false m).1.length (rowCells (besF bothS bigS l false m).1) ∧ RowsK 2 (besF bothS bigS l false m).1 ∧ (besF bothS bigS l false m).1.length ≤ 2000) := by
        show _ ∧ _ ∧ _
        rw [hfin]
        exact ⟨by rw [HAC.out]; exact hown, HAK.out, by rw [HAC.out]; omega⟩
      clear hown hfin HOWN
      go_wp2_with fail
      go_ret
      exact ⟨_, rfl, HFIN, hbel⟩
end Go.Proofs.Ytmbmognhbljliaa.Sam
