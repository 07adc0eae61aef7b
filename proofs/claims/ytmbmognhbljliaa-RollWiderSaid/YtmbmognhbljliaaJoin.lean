/-
  The walk of roll.Join.
-/
import Derived.Test.YtmbmognhbljliaaLib4
import Derived.Test.YtmbmognhbljliaaWin
import Derived.Test.YtmbmognhbljliaaRoll2
import Derived.Test.YtmbmognhbljliaaBox7
namespace Go.Proofs.Ytmbmognhbljliaa.Join
open Go.RowKit Go.Gh
set_option linter.unusedVariables false

def bigW (r : List Int) : Bool := decide (1000000000 < rg r 1)
theorem both_key (x y : List Int) : rg (bothW x y) 0 = rg x 0 := rfl
theorem fault_small {l : List (List Int)} (h : winF l = 0) : l.length ≤ 1000 := (win_asc h).2
theorem fault_asc {l : List (List Int)} (h : winF l = 0) : Asc l := (win_asc h).1
theorem ints_one (l : List Int) : ∀ u ∈ l.map (Value.int .i64), u.oneCell' = true := by
  intro u hu; simp at hu; obtain ⟨z, _, rfl⟩ := hu; rfl
noncomputable def joinAll (l m : List (List Int)) : List (List Int) × Int := if winF l = 0 then if winF m = 0 then joinR bothW bigW l m else ([], winF m) else ([], winF l)
/-- What region 10 leaves: the new window's block. -/
def JoinCut (B : Nat) (acc : List (List Int)) (r : Nat) (row : List Int) (u : Value) (w : World) (t : Value) (wx : World) : Prop := ∃ bx, t = .pointer (some ⟨bx, 0, none⟩) ∧ B ≤ bx ∧ wx.heap[bx]? = some (.cells (Roll.winA row) 92 (0, 0)) ∧ wx.ownsRow B 92 7 u r (rowCells acc) ∧ Below B w wx
theorem rowK (r : List Int) (h : r.length = 7) : ∃ x0 x1 x2 x3 x4 x5 x6 : Int, r = [x0, x1, x2, x3, x4, x5, x6] := by
  match r, h with
  | [x0, x1, x2, x3, x4, x5, x6], _ => exact ⟨x0, x1, x2, x3, x4, x5, x6, rfl⟩
def lenOf : Value → Nat
  | .slice _ n _ => n
  | _ => 0

set_option maxHeartbeats 4000000 in
set_option maxRecDepth 100000 in
theorem join_any (v u : Value) (n o : Nat) (l m : List (List Int)) (w : World) (hs : Sl w 7 v n (rowCells l)) (ht : Sl w 7 u o (rowCells m)) (hl : l.length = n) (hm : m.length = o) (hrl : Rows64 7 l) (hrm : Rows64 7 m) (hn : n ≤ 140737488355328) (ho : o ≤ 140737488355328) :
    Calls Try.prog 49 #[v, u] w (RowPost 92 7 w (joinAll l m)) := by
  obtain ⟨ao, c, rfl, hnc, hc, _⟩ := hs.shape
  obtain ⟨bo, d, rfl, hod, hd, _⟩ := ht.shape
  have HL := Lib.hid hl
  have HM := Lib.hid hm
  obtain ⟨e1, he1⟩ : ∃ e, winF l = e := ⟨_, rfl⟩
  obtain ⟨e2, he2⟩ : ∃ e, winF m = e := ⟨_, rfl⟩
  have HE1 := Lib.hid he1
  have HE2 := Lib.hid he2
  clear hl hm he1 he2
  go_enter Try.func49, Try.ntmps49
  go_wp2_with fail
  obtain ⟨wA, hwA⟩ : ∃ wA, wA = w.alloc (Obj.cells #[.slice ao n c, .slice bo o d] 36) := ⟨_, rfl⟩
  have hA0 : wA.cell? ⟨w.heap.size, 0, none⟩ = some (.slice ao n c) := by rw [hwA]; exact cell_new w _ [_, _] 0 _ rfl
  have hA1 : wA.cell? ⟨w.heap.size, 1, none⟩ = some (.slice bo o d) := by rw [hwA]; exact cell_new w _ [_, _] 1 _ rfl
  have hAs : wA.heap.size = w.heap.size + 1 := by rw [hwA]; simp
  have hAb : Below w.heap.size w wA := by rw [hwA]; exact (Below.refl _ _).alloc (Nat.le_refl _) _
  rw [← hwA]
  have HAS := Lib.hid hAs
  clear hwA hAs
  go_loopw [15] (fun i wr => ∃ k : Int, (k = 0 ∨ k = 1 ∨ k = 2) ∧ i = .int .i64 k ∧ Below wA.heap.size wA wr ∧ Hid ((1 ≤ k → e1 = 0) ∧ (2 ≤ k → e2 = 0))) (fun i _ => (3 - intOf i).toNat)
  case atStart => exact ⟨0, Or.inl rfl, rfl, Below.refl _ _, by constructor <;> intro h <;> omega⟩
  case round =>
    obtain ⟨k, hk, rfl, hbr, hdone⟩ := hrel
    have hsl := (hs.below hAb).below hbr
    have hsm := (ht.below hAb).below hbr
    have hBw : Below w.heap.size w wr := hAb.trans (hbr.mono (by rw [HAS.out]; omega))
    have a0 : wr.cell? ⟨w.heap.size, 0, none⟩ = some (.slice ao n c) := (hbr.cell (p := ⟨w.heap.size, 0, none⟩) (by show w.heap.size < wA.heap.size; rw [HAS.out]; omega)).trans hA0
    have a1 : wr.cell? ⟨w.heap.size, 1, none⟩ = some (.slice bo o d) := (hbr.cell (p := ⟨w.heap.size, 1, none⟩) (by show w.heap.size < wA.heap.size; rw [HAS.out]; omega)).trans hA1
    rcases hk with rfl | rfl | rfl
    · by_cases hz : e1 = 0
      · have HN : Hid ((1 ≤ (1 : Int) → e1 = 0) ∧ (2 ≤ (1 : Int) → e2 = 0)) := ⟨fun _ => hz, fun h => by omega⟩
        have t1 : (e1 != 0) = false := by rw [hz]; rfl
        clear hz
        go_wp2_with (go_at_call 51; refine (Win.check_any (.slice ao n c) n l _ hsl HL.out hrl.k hn).mono ?_; rw [HE1.out]; rintro e w1 ⟨rfl, hb1⟩)
        go_roundw
        case rel => exact ⟨1, Or.inr (Or.inl rfl), rfl, hbr.trans (hb1.mono hbr.size), HN⟩
        case measure => simp [intOf]
      · have HF : Hid (joinAll l m = ([], e1)) := by
          show _ = _
          unfold joinAll
          rw [HE1.out, if_neg hz]
        have t1 : (e1 != 0) = true := by rw [bne_iff_ne]; exact hz
        clear hz
        go_wp2_with (go_at_call 51; refine (Win.check_any (.slice ao n c) n l _ hsl HL.out hrl.k hn).mono ?_; rw [HE1.out]; rintro e w1 ⟨rfl, hb1⟩)
        go_ret2
        exact rowPost_nil HF.out (hBw.trans (hb1.mono hBw.size))
    · by_cases hz : e2 = 0
      · have HN : Hid ((1 ≤ (2 : Int) → e1 = 0) ∧ (2 ≤ (2 : Int) → e2 = 0)) := ⟨fun _ => hdone.out.1 (by omega), fun _ => hz⟩
        have t1 : (e2 != 0) = false := by rw [hz]; rfl
        clear hz
        go_wp2_with (go_at_call 51; refine (Win.check_any (.slice bo o d) o m _ hsm HM.out hrm.k ho).mono ?_; rw [HE2.out]; rintro e w1 ⟨rfl, hb1⟩)
        go_roundw
        case rel => exact ⟨2, Or.inr (Or.inr rfl), rfl, hbr.trans (hb1.mono hbr.size), HN⟩
        case measure => simp [intOf]
      · have HF : Hid (joinAll l m = ([], e2)) := by
          show _ = _
          unfold joinAll
          rw [HE1.out, if_pos (hdone.out.1 (by omega)), HE2.out, if_neg hz]
        have t1 : (e2 != 0) = true := by rw [bne_iff_ne]; exact hz
        clear hz
        go_wp2_with (go_at_call 51; refine (Win.check_any (.slice bo o d) o m _ hsm HM.out hrm.k ho).mono ?_; rw [HE2.out]; rintro e w1 ⟨rfl, hb1⟩)
        go_ret2
        exact rowPost_nil HF.out (hBw.trans (hb1.mono hBw.size))
    · have hz1 := hdone.out.1 (by omega)
      have hz2 := hdone.out.2 (by omega)
      have hn2 : n ≤ 1000 := by have := fault_small (HE1.out.trans hz1); rw [HL.out] at this; exact this
      have ho2 : o ≤ 1000 := by have := fault_small (HE2.out.trans hz2); rw [HM.out] at this; exact this
      have HF : Hid (joinAll l m = joinR bothW bigW l m) := by
        show _ = _
        unfold joinAll
        rw [HE1.out, if_pos hz1, HE2.out, if_pos hz2]
      clear hz1 hz2 hdone a0 a1
      go_wp2_with fail
      obtain ⟨wo, rfl⟩ : ∃ wo : World, wo = wr := ⟨_, rfl⟩
      go_loopw [0, 1, 9] (fun ua ub u wr => ∃ p q r : Nat, p + q + r ≤ 2000 ∧ Hid (MRel 92 7 bothW bigW l m w.heap.size p q r w wr ua ub u) ∧ Below w.heap.size w wr) (fun ua ub _ _ => lenOf ua + lenOf ub)
      case atStart => exact ⟨n, o, 0, by omega, ⟨⟨l, m, [], hs, HL.out, hrl.k, ht, HM.out, hrm.k, World.ownsRow_nil _ _ _ _, rfl, by intro r hr; simp at hr, by simp⟩⟩, hBw⟩
      case round =>
        obtain ⟨p, q, r, hpq, ⟨⟨a, b, acc, h1, hla, hra, h2, hlb, hrb, h3, hlc, hrc, hf⟩⟩, hbel⟩ := hrel
        have hsz := hbel.size
        have HLA := Lib.hid hla
        have HLB := Lib.hid hlb
        have HLC := Lib.hid hlc
        have HRA := Lib.hid hra
        have HRB := Lib.hid hrb
        have HRC := Lib.hid hrc
        have HFD := Lib.hid hf
        clear hla hlb hlc hra hrb hrc hf
        obtain ⟨la, lc, rfl, hl1, hl2, _⟩ := h1.shape
        obtain ⟨lb, ld, rfl, hm1, hm2, _⟩ := h2.shape
        obtain ⟨uo, uc, rfl, hu1, hu2, _⟩ := own_shape h3
        by_cases hpq0 : p = 0 ∧ q = 0
        · obtain ⟨rfl, rfl⟩ := hpq0
          have hf := HFD.out
          have ha : a = [] := List.length_eq_zero_iff.1 HLA.out
          have hb : b = [] := List.length_eq_zero_iff.1 HLB.out
          rw [ha, hb, merge_nil, Option.map_some, List.append_nil] at hf
          by_cases hbig : 1000 < r
          · have HRES : Hid (joinAll l m = ([], 2)) := by
              show _ = _
              rw [HF.out]
              unfold joinR
              rw [hf]
              exact if_pos (by rw [HLC.out]; exact hbig)
            clear hf
            go_wp2_with fail
            go_ret2
            exact rowPost_nil HRES.out hbel
          · have HRES : Hid (RowPost 92 7 w (joinAll l m) (.returned (.tuple #[.slice uo r uc, .int .i64 0])) wr) := by
              show RowPost _ _ _ _ _ _
              have : joinAll l m = (acc, 0) := by
                rw [HF.out]
                unfold joinR
                rw [hf]
                exact if_neg (by rw [HLC.out]; exact hbig)
              rw [this]
              exact ⟨_, rfl, by rw [HLC.out]; exact h3, hbel, HRC.out, by rw [HLC.out]; omega⟩
            clear hf h3
            go_wp2_with fail
            go_ret2
            exact HRES.out
        by_cases hq0 : q = 0
        · subst hq0
          have hp0 : ¬ p = 0 := fun h => hpq0 ⟨h, rfl⟩
          clear hpq0
          obtain ⟨p, rfl⟩ : ∃ j, p = j + 1 := ⟨p - 1, by omega⟩
          obtain ⟨x, a', rfl⟩ := cons_of HLA.out
          obtain ⟨b1, off1, rfl, hk1, hck⟩ := (h1.below hbel).head HLA.out HRA.out
          obtain ⟨x0, x1, x2, x3, x4, x5, x6, rfl⟩ := rowK x hk1
          clear hk1
          have c0 : _ = some (Value.int .i64 x0) := hck 0 (by decide)
          have c1 : _ = some (Value.int .i64 x1) := hck 1 (by decide)
          have c2 : _ = some (Value.int .i64 x2) := hck 2 (by decide)
          have c3 : _ = some (Value.int .i64 x3) := hck 3 (by decide)
          have c4 : _ = some (Value.int .i64 x4) := hck 4 (by decide)
          have c5 : _ = some (Value.int .i64 x5) := hck 5 (by decide)
          have c6 : _ = some (Value.int .i64 x6) := hck 6 (by decide)
          rw [Nat.add_zero] at c0
          clear hck
          obtain ⟨ta1, ta2⟩ := tail_spec h1 rfl
          have i1 : (0 : Int) < ((p + 1 : Nat) : Int) := by omega
          have k1 : (1 : Int) ≤ (p : Int) + 1 := by omega
          have j1 : (((p + 1 : Nat) : Int) == 0) = false := beq_eq_false_iff_ne.2 (by omega)
          have j1' : ((p : Int) + 1 == 0) = false := beq_eq_false_iff_ne.2 (by omega)
          have l1 : decide ((0 : Int) < (p : Int) + 1) = true := decide_eq_true (by omega)
          have HLT : Hid (∀ y b', b = y :: b' → rg [x0, x1, x2, x3, x4, x5, x6] 0 < rg y 0) := by
            intro y b' h
            have := HLB.out
            rw [h] at this; simp at this
          clear hp0
          go_wp2_with fail
          go_quiet (fail)
          go_wp2_with fail
          by_cases hcap : lc = 1
          · have HT := Lib.hid (ta1 hcap)
            subst hcap
            obtain rfl : p = 0 := by omega
            clear ta1 ta2
            go_region_law (first | (refine step_app1 ([x0, x1, x2, x3, x4, x5, x6].map (Value.int .i64)) Roll.elWin rfl _ _ rfl (by exact h3) (by first | exact below_drewN hbel _ | exact (below_drewN hbel _).drew) (Nat.le_refl _) hsz rfl rfl rfl (ints_one _) (by omega) (by omega) ?_; intro g cap w2 hown' hbel' hgr'))
            all_goals
              have HREL : Hid (MRel 92 7 bothW bigW l m w.heap.size _ _ _ w _ _ _ _) := mrel_a HT.out HLA.out HRA.out h2 HLB.out HRB.out hown' HLC.out HRC.out HFD.out HLT.out
              clear hown' hgr'
              go_simp
              go_wp2_with fail
              go_roundw
              case rel => exact ⟨_, _, _, by omega, HREL, hbel'⟩
              case measure => first | (simp [lenOf]; done) | (simp [lenOf]; omega)
          · have HT := Lib.hid (ta2 hcap)
            clear ta1 ta2
            go_region_law (first | (refine step_app1 ([x0, x1, x2, x3, x4, x5, x6].map (Value.int .i64)) Roll.elWin rfl _ _ rfl (by exact h3) (by first | exact below_drewN hbel _ | exact (below_drewN hbel _).drew) (Nat.le_refl _) hsz rfl rfl rfl (ints_one _) (by omega) (by omega) ?_; intro g cap w2 hown' hbel' hgr'))
            all_goals
              have HREL : Hid (MRel 92 7 bothW bigW l m w.heap.size _ _ _ w _ _ _ _) := mrel_a HT.out HLA.out HRA.out h2 HLB.out HRB.out hown' HLC.out HRC.out HFD.out HLT.out
              clear hown' hgr'
              go_simp
              go_wp2_with fail
              go_roundw
              case rel => exact ⟨_, _, _, by omega, HREL, hbel'⟩
              case measure => first | (simp [lenOf]; done) | (simp [lenOf]; omega)
        by_cases hp0 : p = 0
        · subst hp0
          clear hpq0
          obtain ⟨q, rfl⟩ : ∃ j, q = j + 1 := ⟨q - 1, by omega⟩
          obtain ⟨y, b', rfl⟩ := cons_of HLB.out
          obtain ⟨b2, off2, rfl, hk2, hdk⟩ := (h2.below hbel).head HLB.out HRB.out
          obtain ⟨y0, y1, y2, y3, y4, y5, y6, rfl⟩ := rowK y hk2
          clear hk2
          have d0 : _ = some (Value.int .i64 y0) := hdk 0 (by decide)
          have d1 : _ = some (Value.int .i64 y1) := hdk 1 (by decide)
          have d2 : _ = some (Value.int .i64 y2) := hdk 2 (by decide)
          have d3 : _ = some (Value.int .i64 y3) := hdk 3 (by decide)
          have d4 : _ = some (Value.int .i64 y4) := hdk 4 (by decide)
          have d5 : _ = some (Value.int .i64 y5) := hdk 5 (by decide)
          have d6 : _ = some (Value.int .i64 y6) := hdk 6 (by decide)
          rw [Nat.add_zero] at d0
          clear hdk
          obtain ⟨tb1, tb2⟩ := tail_spec h2 rfl
          have i2 : (0 : Int) < ((q + 1 : Nat) : Int) := by omega
          have k2 : (1 : Int) ≤ (q : Int) + 1 := by omega
          have j2 : (((q + 1 : Nat) : Int) == 0) = false := beq_eq_false_iff_ne.2 (by omega)
          have j2' : ((q : Int) + 1 == 0) = false := beq_eq_false_iff_ne.2 (by omega)
          have l2 : decide ((0 : Int) < (q : Int) + 1) = true := decide_eq_true (by omega)
          have HLT : Hid (∀ x a', a = x :: a' → rg [y0, y1, y2, y3, y4, y5, y6] 0 < rg x 0) := by
            intro x a' h
            have := HLA.out
            rw [h] at this; simp at this
          clear hq0
          go_wp2_with fail
          go_quiet (fail)
          go_wp2_with fail
          go_quiet (fail)
          go_wp2_with fail
          by_cases hcap : ld = 1
          · have HT := Lib.hid (tb1 hcap)
            subst hcap
            obtain rfl : q = 0 := by omega
            clear tb1 tb2
            go_region_law (first | (refine step_app1 ([y0, y1, y2, y3, y4, y5, y6].map (Value.int .i64)) Roll.elWin rfl _ _ rfl (by exact h3) (by first | exact below_drewN hbel _ | exact (below_drewN hbel _).drew) (Nat.le_refl _) hsz rfl rfl rfl (ints_one _) (by omega) (by omega) ?_; intro g cap w2 hown' hbel' hgr'))
            all_goals
              have HREL : Hid (MRel 92 7 bothW bigW l m w.heap.size _ _ _ w _ _ _ _) := mrel_b h1 HLA.out HRA.out HT.out HLB.out HRB.out hown' HLC.out HRC.out HFD.out HLT.out
              clear hown' hgr'
              go_simp
              go_wp2_with fail
              go_roundw
              case rel => exact ⟨_, _, _, by omega, HREL, hbel'⟩
              case measure => first | (simp [lenOf]; done) | (simp [lenOf]; omega)
          · have HT := Lib.hid (tb2 hcap)
            clear tb1 tb2
            go_region_law (first | (refine step_app1 ([y0, y1, y2, y3, y4, y5, y6].map (Value.int .i64)) Roll.elWin rfl _ _ rfl (by exact h3) (by first | exact below_drewN hbel _ | exact (below_drewN hbel _).drew) (Nat.le_refl _) hsz rfl rfl rfl (ints_one _) (by omega) (by omega) ?_; intro g cap w2 hown' hbel' hgr'))
            all_goals
              have HREL : Hid (MRel 92 7 bothW bigW l m w.heap.size _ _ _ w _ _ _ _) := mrel_b h1 HLA.out HRA.out HT.out HLB.out HRB.out hown' HLC.out HRC.out HFD.out HLT.out
              clear hown' hgr'
              go_simp
              go_wp2_with fail
              go_roundw
              case rel => exact ⟨_, _, _, by omega, HREL, hbel'⟩
              case measure => first | (simp [lenOf]; done) | (simp [lenOf]; omega)
        clear hpq0
        obtain ⟨p, rfl⟩ : ∃ j, p = j + 1 := ⟨p - 1, by omega⟩
        obtain ⟨x, a', rfl⟩ := cons_of HLA.out
        obtain ⟨b1, off1, rfl, hk1, hck⟩ := (h1.below hbel).head HLA.out HRA.out
        obtain ⟨x0, x1, x2, x3, x4, x5, x6, rfl⟩ := rowK x hk1
        clear hk1
        have c0 : _ = some (Value.int .i64 x0) := hck 0 (by decide)
        have c1 : _ = some (Value.int .i64 x1) := hck 1 (by decide)
        have c2 : _ = some (Value.int .i64 x2) := hck 2 (by decide)
        have c3 : _ = some (Value.int .i64 x3) := hck 3 (by decide)
        have c4 : _ = some (Value.int .i64 x4) := hck 4 (by decide)
        have c5 : _ = some (Value.int .i64 x5) := hck 5 (by decide)
        have c6 : _ = some (Value.int .i64 x6) := hck 6 (by decide)
        rw [Nat.add_zero] at c0
        clear hck
        obtain ⟨ta1, ta2⟩ := tail_spec h1 rfl
        have i1 : (0 : Int) < ((p + 1 : Nat) : Int) := by omega
        have k1 : (1 : Int) ≤ (p : Int) + 1 := by omega
        have j1 : (((p + 1 : Nat) : Int) == 0) = false := beq_eq_false_iff_ne.2 (by omega)
        have j1' : ((p : Int) + 1 == 0) = false := beq_eq_false_iff_ne.2 (by omega)
        have l1 : decide ((0 : Int) < (p : Int) + 1) = true := decide_eq_true (by omega)
        obtain ⟨q, rfl⟩ : ∃ j, q = j + 1 := ⟨q - 1, by omega⟩
        obtain ⟨y, b', rfl⟩ := cons_of HLB.out
        obtain ⟨b2, off2, rfl, hk2, hdk⟩ := (h2.below hbel).head HLB.out HRB.out
        obtain ⟨y0, y1, y2, y3, y4, y5, y6, rfl⟩ := rowK y hk2
        clear hk2
        have d0 : _ = some (Value.int .i64 y0) := hdk 0 (by decide)
        have d1 : _ = some (Value.int .i64 y1) := hdk 1 (by decide)
        have d2 : _ = some (Value.int .i64 y2) := hdk 2 (by decide)
        have d3 : _ = some (Value.int .i64 y3) := hdk 3 (by decide)
        have d4 : _ = some (Value.int .i64 y4) := hdk 4 (by decide)
        have d5 : _ = some (Value.int .i64 y5) := hdk 5 (by decide)
        have d6 : _ = some (Value.int .i64 y6) := hdk 6 (by decide)
        rw [Nat.add_zero] at d0
        clear hdk
        obtain ⟨tb1, tb2⟩ := tail_spec h2 rfl
        have i2 : (0 : Int) < ((q + 1 : Nat) : Int) := by omega
        have k2 : (1 : Int) ≤ (q : Int) + 1 := by omega
        have j2 : (((q + 1 : Nat) : Int) == 0) = false := beq_eq_false_iff_ne.2 (by omega)
        have j2' : ((q : Int) + 1 == 0) = false := beq_eq_false_iff_ne.2 (by omega)
        have l2 : decide ((0 : Int) < (q : Int) + 1) = true := decide_eq_true (by omega)
        clear hp0 hq0
        rcases Int.lt_trichotomy x0 y0 with hlt | heq | hgt
        · have HLT : Hid (∀ z b'', [y0, y1, y2, y3, y4, y5, y6] :: b' = z :: b'' → rg [x0, x1, x2, x3, x4, x5, x6] 0 < rg z 0) := by
            intro z b'' h
            simp at h
            rw [← h.1]
            exact hlt
          have n1 : decide (x0 < y0) = true := decide_eq_true hlt
          go_wp2_with fail
          go_quiet (fail)
          go_wp2_with fail
          by_cases hcap : lc = 1
          · have HT := Lib.hid (ta1 hcap)
            subst hcap
            obtain rfl : p = 0 := by omega
            clear ta1 ta2 tb1 tb2
            go_region_law (first | (refine step_app1 ([x0, x1, x2, x3, x4, x5, x6].map (Value.int .i64)) Roll.elWin rfl _ _ rfl (by exact h3) (by first | exact below_drewN hbel _ | exact (below_drewN hbel _).drew) (Nat.le_refl _) hsz rfl rfl rfl (ints_one _) (by omega) (by omega) ?_; intro g cap w2 hown' hbel' hgr'))
            all_goals
              have HREL : Hid (MRel 92 7 bothW bigW l m w.heap.size _ _ _ w _ _ _ _) := mrel_a HT.out HLA.out HRA.out h2 HLB.out HRB.out hown' HLC.out HRC.out HFD.out HLT.out
              clear hown' hgr'
              go_simp
              go_wp2_with fail
              go_roundw
              case rel => exact ⟨_, _, _, by omega, HREL, hbel'⟩
              case measure => first | (simp [lenOf]; done) | (simp [lenOf]; omega)
          · have HT := Lib.hid (ta2 hcap)
            clear ta1 ta2 tb1 tb2
            go_region_law (first | (refine step_app1 ([x0, x1, x2, x3, x4, x5, x6].map (Value.int .i64)) Roll.elWin rfl _ _ rfl (by exact h3) (by first | exact below_drewN hbel _ | exact (below_drewN hbel _).drew) (Nat.le_refl _) hsz rfl rfl rfl (ints_one _) (by omega) (by omega) ?_; intro g cap w2 hown' hbel' hgr'))
            all_goals
              have HREL : Hid (MRel 92 7 bothW bigW l m w.heap.size _ _ _ w _ _ _ _) := mrel_a HT.out HLA.out HRA.out h2 HLB.out HRB.out hown' HLC.out HRC.out HFD.out HLT.out
              clear hown' hgr'
              go_simp
              go_wp2_with fail
              go_roundw
              case rel => exact ⟨_, _, _, by omega, HREL, hbel'⟩
              case measure => first | (simp [lenOf]; done) | (simp [lenOf]; omega)
        · subst heq
          have n1 : decide (x0 < x0) = false := decide_eq_false (by omega)
          obtain ⟨N, hN⟩ : ∃ N, IntKind.i64.wrap (x1 + y1) = N := ⟨_, rfl⟩
          obtain ⟨S2, hS2⟩ : ∃ N, IntKind.i64.wrap (x2 + y2) = N := ⟨_, rfl⟩
          obtain ⟨M3, hM3⟩ : ∃ N, min x3 y3 = N := ⟨_, rfl⟩
          obtain ⟨M4, hM4⟩ : ∃ N, max x4 y4 = N := ⟨_, rfl⟩
          have HB : Hid (bothW [x0, x1, x2, x3, x4, x5, x6] [x0, y1, y2, y3, y4, y5, y6] = [x0, N, S2, M3, M4, x5, y6]) := by
            show [x0, IntKind.i64.wrap (x1 + y1), IntKind.i64.wrap (x2 + y2), min x3 y3, max x4 y4, _, _] = _
            rw [hN, hS2, hM3, hM4]
            rfl
          have HN := Lib.hid hN
          have HS2 := Lib.hid hS2
          have HM3 := Lib.hid hM3
          have HM4 := Lib.hid hM4
          clear hN hS2 hM3 hM4
          go_wp2_with fail
          go_quiet (fail)
          go_wp2_with fail
          go_quiet (fail)
          have hnw1 : b1 < wr.heap.size := cell_lt c0
          have hnw2 : b2 < wr.heap.size := cell_lt d0
          have da0 : ∀ (n : Nat) (o : Obj), ((wr.drewN n).alloc o).cell? ⟨b2, off2, none⟩ = some (.int .i64 x0) := fun n o => (((below_drewN (Below.refl _ wr) n).alloc (Nat.le_refl _) o).cell (p := ⟨b2, _, none⟩) hnw2).trans d0
          have ca0 : ∀ (n : Nat) (o : Obj), ((wr.drewN n).alloc o).cell? ⟨b1, off1, none⟩ = some (.int .i64 x0) := fun n o => (((below_drewN (Below.refl _ wr) n).alloc (Nat.le_refl _) o).cell (p := ⟨b1, _, none⟩) hnw1).trans c0
          have da1 : ∀ (n : Nat) (o : Obj), ((wr.drewN n).alloc o).cell? ⟨b2, off2 + 1, none⟩ = some (.int .i64 y1) := fun n o => (((below_drewN (Below.refl _ wr) n).alloc (Nat.le_refl _) o).cell (p := ⟨b2, _, none⟩) hnw2).trans d1
          have ca1 : ∀ (n : Nat) (o : Obj), ((wr.drewN n).alloc o).cell? ⟨b1, off1 + 1, none⟩ = some (.int .i64 x1) := fun n o => (((below_drewN (Below.refl _ wr) n).alloc (Nat.le_refl _) o).cell (p := ⟨b1, _, none⟩) hnw1).trans c1
          have da2 : ∀ (n : Nat) (o : Obj), ((wr.drewN n).alloc o).cell? ⟨b2, off2 + 2, none⟩ = some (.int .i64 y2) := fun n o => (((below_drewN (Below.refl _ wr) n).alloc (Nat.le_refl _) o).cell (p := ⟨b2, _, none⟩) hnw2).trans d2
          have ca2 : ∀ (n : Nat) (o : Obj), ((wr.drewN n).alloc o).cell? ⟨b1, off1 + 2, none⟩ = some (.int .i64 x2) := fun n o => (((below_drewN (Below.refl _ wr) n).alloc (Nat.le_refl _) o).cell (p := ⟨b1, _, none⟩) hnw1).trans c2
          have da3 : ∀ (n : Nat) (o : Obj), ((wr.drewN n).alloc o).cell? ⟨b2, off2 + 3, none⟩ = some (.int .i64 y3) := fun n o => (((below_drewN (Below.refl _ wr) n).alloc (Nat.le_refl _) o).cell (p := ⟨b2, _, none⟩) hnw2).trans d3
          have ca3 : ∀ (n : Nat) (o : Obj), ((wr.drewN n).alloc o).cell? ⟨b1, off1 + 3, none⟩ = some (.int .i64 x3) := fun n o => (((below_drewN (Below.refl _ wr) n).alloc (Nat.le_refl _) o).cell (p := ⟨b1, _, none⟩) hnw1).trans c3
          have da4 : ∀ (n : Nat) (o : Obj), ((wr.drewN n).alloc o).cell? ⟨b2, off2 + 4, none⟩ = some (.int .i64 y4) := fun n o => (((below_drewN (Below.refl _ wr) n).alloc (Nat.le_refl _) o).cell (p := ⟨b2, _, none⟩) hnw2).trans d4
          have ca4 : ∀ (n : Nat) (o : Obj), ((wr.drewN n).alloc o).cell? ⟨b1, off1 + 4, none⟩ = some (.int .i64 x4) := fun n o => (((below_drewN (Below.refl _ wr) n).alloc (Nat.le_refl _) o).cell (p := ⟨b1, _, none⟩) hnw1).trans c4
          have da5 : ∀ (n : Nat) (o : Obj), ((wr.drewN n).alloc o).cell? ⟨b2, off2 + 5, none⟩ = some (.int .i64 y5) := fun n o => (((below_drewN (Below.refl _ wr) n).alloc (Nat.le_refl _) o).cell (p := ⟨b2, _, none⟩) hnw2).trans d5
          have ca5 : ∀ (n : Nat) (o : Obj), ((wr.drewN n).alloc o).cell? ⟨b1, off1 + 5, none⟩ = some (.int .i64 x5) := fun n o => (((below_drewN (Below.refl _ wr) n).alloc (Nat.le_refl _) o).cell (p := ⟨b1, _, none⟩) hnw1).trans c5
          have da6 : ∀ (n : Nat) (o : Obj), ((wr.drewN n).alloc o).cell? ⟨b2, off2 + 6, none⟩ = some (.int .i64 y6) := fun n o => (((below_drewN (Below.refl _ wr) n).alloc (Nat.le_refl _) o).cell (p := ⟨b2, _, none⟩) hnw2).trans d6
          have ca6 : ∀ (n : Nat) (o : Obj), ((wr.drewN n).alloc o).cell? ⟨b1, off1 + 6, none⟩ = some (.int .i64 x6) := fun n o => (((below_drewN (Below.refl _ wr) n).alloc (Nat.le_refl _) o).cell (p := ⟨b1, _, none⟩) hnw1).trans c6
          have hne : (Value.slice uo r uc).ownBlock ≠ some wr.heap.size := by
            intro h
            have := (h3.lt _ h).2
            omega
          go_upto_region 10 with (fail)
          go_cut [10] (fun t wx => JoinCut w.heap.size acc r [x0, N, S2, M3, M4, x5, y6] (.slice uo r uc) w t wx)
          case first =>
            go_region_law (first
              | (go_simp; go_at_call 79; refine (Roll.both_any x0 x1 x2 x3 x4 x5 x6 x0 y1 y2 y3 y4 y5 y6 _).mono ?_; rw [HN.out, HS2.out, HM3.out, HM4.out]; rintro e w2 ⟨rfl, hb2⟩; have hbq : Below wr.heap.size wr w2 := (below_drewN (Below.refl _ wr) _).trans hb2; have hown2 : w2.ownsRow w.heap.size 92 7 (.slice uo r uc) r (rowCells acc) := own_below h3 hbq)
              | (go_simp; go_at_call 79; refine (Roll.both_any x0 x1 x2 x3 x4 x5 x6 x0 y1 y2 y3 y4 y5 y6 _).mono ?_; rw [HN.out, HS2.out, HM3.out, HM4.out]; rintro e w2 ⟨rfl, hb2⟩; have hbq : Below wr.heap.size wr w2 := ((below_drewN (Below.refl _ wr) _).alloc (Nat.le_refl _) _).trans (hb2.mono (by simp)); have hown2 : w2.ownsRow w.heap.size 92 7 (.slice uo r uc) r (rowCells acc) := own_below h3 hbq; have hbox2 : w2.heap[wr.heap.size]? = some (.cells (Roll.winA [0, 0, 0, 0, 0, 0, 0]) 92 (0, 0)) := (hb2.block wr.heap.size (by simp)).trans (heap_alloc_new _ _); obtain ⟨⟨k0, k1, k2, k3, k4, k5, k6⟩, ⟨z0, z1, z2, z3, z4, z5, z6⟩⟩ := Roll.box_cells hbox2))
            all_goals (go_wp2_with fail; go_meet)
            all_goals first
              | exact ⟨_, rfl, (hbel.trans (hbq.mono hsz)).size, heap_alloc_new w2 _, hown2.alloc _, (hbel.trans (hbq.mono hsz)).alloc (hbel.trans (hbq.mono hsz)).size _⟩
              | (obtain ⟨m1, m2, m3⟩ := Roll.box_chain (n0 := x0) (n1 := N) (n2 := S2) (n3 := M3) (n4 := M4) (n5 := x5) (n6 := y6) hown2 hne hbox2 (hbel.trans (hbq.mono hsz)) hsz; exact ⟨_, rfl, hsz, m2, m1, m3⟩)
          case rest =>
            obtain ⟨bx, rfl, hbx, hbox, hown2, hbel2⟩ := hcut
            obtain ⟨⟨g0, g1, g2, g3, g4, g5, g6⟩, -⟩ := Roll.box_cells hbox
            clear c0 d0 ca0 da0 c1 d1 ca1 da1 c2 d2 ca2 da2 c3 d3 ca3 da3 c4 d4 ca4 da4 c5 d5 ca5 da5 c6 d6 ca6 da6 hbox
            by_cases hbig : 1000000000 < N
            · have HRES : Hid (joinAll l m = ([], 2)) := by
                show _ = _
                rw [HF.out]
                unfold joinR
                rw [HFD.out, merge_big (x := [x0, x1, x2, x3, x4, x5, x6]) (y := [x0, y1, y2, y3, y4, y5, y6]) rfl (by rw [HB.out]; exact decide_eq_true hbig)]
                rfl
              clear ta1 ta2 tb1 tb2
              go_wp2_with fail
              go_ret2
              exact rowPost_nil HRES.out hbel2
            · have HBG : Hid (bigW (bothW [x0, x1, x2, x3, x4, x5, x6] [x0, y1, y2, y3, y4, y5, y6]) = false) := by
                show _ = _
                rw [HB.out]
                exact decide_eq_false hbig
              have hsz2 := hbel2.size
              have q1 : (r + 1) * 56 ≤ 140737488355328 := by omega
              have q2 : r + 1 ≤ 9223372036854775807 := by omega
              go_wp2_with (at_builtin; go_loud (refine append1p ([x0, N, S2, M3, M4, x5, y6].map (Value.int .i64)) Roll.elWin rfl _ _ rfl hown2 hbel2 hsz2 rfl rfl rfl rfl (ints_one _) q1 q2 ?_); intro v' w3 hown3 hbel' _)
              have HOW : Hid (w3.ownsRow w.heap.size 92 7 v' (r + 1) (rowCells acc ++ (bothW [x0, x1, x2, x3, x4, x5, x6] [x0, y1, y2, y3, y4, y5, y6]).map (Value.int .i64))) := by rw [HB.out]; exact hown3
              clear hown2 hown3 hbel2 g0 g1 g2 g3 g4 g5 g6
              by_cases hca : lc = 1 <;> by_cases hcb : ld = 1
              · have HTA := Lib.hid (ta1 hca)
                have HTB := Lib.hid (tb1 hcb)
                subst hca
                obtain rfl : p = 0 := by omega
                subst hcb
                obtain rfl : q = 0 := by omega
                have HREL : Hid (MRel 92 7 bothW bigW l m w.heap.size _ _ _ w w3 _ _ _) := mrel_ab HTA.out HLA.out HRA.out HTB.out HLB.out HRB.out HOW.out HLC.out HRC.out rfl HFD.out rfl HBG.out
                clear ta1 ta2 tb1 tb2
                go_wp2_with fail
                go_quiet (fail)
                go_wp2_with fail
                go_roundw
                case rel => exact ⟨_, _, _, by omega, ⟨HREL.out.ex⟩, below_drewN hbel' _⟩
                case measure => first | (simp [lenOf]; done) | (simp [lenOf]; omega)
              · have HTA := Lib.hid (ta1 hca)
                have HTB := Lib.hid (tb2 hcb)
                subst hca
                obtain rfl : p = 0 := by omega
                have HREL : Hid (MRel 92 7 bothW bigW l m w.heap.size _ _ _ w w3 _ _ _) := mrel_ab HTA.out HLA.out HRA.out HTB.out HLB.out HRB.out HOW.out HLC.out HRC.out rfl HFD.out rfl HBG.out
                clear ta1 ta2 tb1 tb2
                go_wp2_with fail
                go_quiet (fail)
                go_wp2_with fail
                go_roundw
                case rel => exact ⟨_, _, _, by omega, ⟨HREL.out.ex⟩, below_drewN hbel' _⟩
                case measure => first | (simp [lenOf]; done) | (simp [lenOf]; omega)
              · have HTA := Lib.hid (ta2 hca)
                have HTB := Lib.hid (tb1 hcb)
                subst hcb
                obtain rfl : q = 0 := by omega
                have HREL : Hid (MRel 92 7 bothW bigW l m w.heap.size _ _ _ w w3 _ _ _) := mrel_ab HTA.out HLA.out HRA.out HTB.out HLB.out HRB.out HOW.out HLC.out HRC.out rfl HFD.out rfl HBG.out
                clear ta1 ta2 tb1 tb2
                go_wp2_with fail
                go_quiet (fail)
                go_wp2_with fail
                go_roundw
                case rel => exact ⟨_, _, _, by omega, ⟨HREL.out.ex⟩, below_drewN hbel' _⟩
                case measure => first | (simp [lenOf]; done) | (simp [lenOf]; omega)
              · have HTA := Lib.hid (ta2 hca)
                have HTB := Lib.hid (tb2 hcb)
                have HREL : Hid (MRel 92 7 bothW bigW l m w.heap.size _ _ _ w w3 _ _ _) := mrel_ab HTA.out HLA.out HRA.out HTB.out HLB.out HRB.out HOW.out HLC.out HRC.out rfl HFD.out rfl HBG.out
                clear ta1 ta2 tb1 tb2
                go_wp2_with fail
                go_quiet (fail)
                go_wp2_with fail
                go_roundw
                case rel => exact ⟨_, _, _, by omega, ⟨HREL.out.ex⟩, below_drewN hbel' _⟩
                case measure => first | (simp [lenOf]; done) | (simp [lenOf]; omega)
        · have HLT : Hid (∀ z a'', [x0, x1, x2, x3, x4, x5, x6] :: a' = z :: a'' → rg [y0, y1, y2, y3, y4, y5, y6] 0 < rg z 0) := by
            intro z a'' h
            simp at h
            rw [← h.1]
            exact hgt
          have n1 : decide (x0 < y0) = false := decide_eq_false (by omega)
          have n2 : decide (y0 < x0) = true := decide_eq_true hgt
          go_wp2_with fail
          go_quiet (fail)
          go_wp2_with fail
          go_quiet (fail)
          go_wp2_with fail
          by_cases hcap : ld = 1
          · have HT := Lib.hid (tb1 hcap)
            subst hcap
            obtain rfl : q = 0 := by omega
            clear ta1 ta2 tb1 tb2
            go_region_law (first | (refine step_app1 ([y0, y1, y2, y3, y4, y5, y6].map (Value.int .i64)) Roll.elWin rfl _ _ rfl (by exact h3) (by first | exact below_drewN hbel _ | exact (below_drewN hbel _).drew) (Nat.le_refl _) hsz rfl rfl rfl (ints_one _) (by omega) (by omega) ?_; intro g cap w2 hown' hbel' hgr'))
            all_goals
              have HREL : Hid (MRel 92 7 bothW bigW l m w.heap.size _ _ _ w _ _ _ _) := mrel_b h1 HLA.out HRA.out HT.out HLB.out HRB.out hown' HLC.out HRC.out HFD.out HLT.out
              clear hown' hgr'
              go_simp
              go_wp2_with fail
              go_roundw
              case rel => exact ⟨_, _, _, by omega, HREL, hbel'⟩
              case measure => first | (simp [lenOf]; done) | (simp [lenOf]; omega)
          · have HT := Lib.hid (tb2 hcap)
            clear ta1 ta2 tb1 tb2
            go_region_law (first | (refine step_app1 ([y0, y1, y2, y3, y4, y5, y6].map (Value.int .i64)) Roll.elWin rfl _ _ rfl (by exact h3) (by first | exact below_drewN hbel _ | exact (below_drewN hbel _).drew) (Nat.le_refl _) hsz rfl rfl rfl (ints_one _) (by omega) (by omega) ?_; intro g cap w2 hown' hbel' hgr'))
            all_goals
              have HREL : Hid (MRel 92 7 bothW bigW l m w.heap.size _ _ _ w _ _ _ _) := mrel_b h1 HLA.out HRA.out HT.out HLB.out HRB.out hown' HLC.out HRC.out HFD.out HLT.out
              clear hown' hgr'
              go_simp
              go_wp2_with fail
              go_roundw
              case rel => exact ⟨_, _, _, by omega, HREL, hbel'⟩
              case measure => first | (simp [lenOf]; done) | (simp [lenOf]; omega)
end Go.Proofs.Ytmbmognhbljliaa.Join
