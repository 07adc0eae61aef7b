/-
  The walk of chunk.Merge.
-/
import Derived.Test.YtmbmognhbljliaaLib4
import Derived.Test.YtmbmognhbljliaaSmp
namespace Go.Proofs.Ytmbmognhbljliaa.Merge
open Go.RowKit Go.Gh
set_option linter.unusedVariables false

theorem infoSmp : (Try.prog.info? 90).map (fun i => (i.zero, i.size, i.bytes)) = some (some (.agg #[.int .i64 0, .int .i64 0]), 2, 16) := by kernel_rfl
theorem elSmp : Elem Try.prog 35 90 2 16 := elem_of Try.underlying35 infoSmp rfl (by decide)
def bothS (x y : List Int) : List Int := [rg x 0, max (rg x 1) (rg y 1)]
def bigS (r : List Int) : Bool := false
theorem both_key (x y : List Int) : rg (bothS x y) 0 = rg x 0 := rfl
theorem fault_small {l : List (List Int)} (h : Smp.sampF l = 0) : l.length ≤ 1000 := by
  unfold Smp.sampF at h
  split at h
  · simp at h
  · omega
theorem fault_asc {l : List (List Int)} (h : Smp.sampF l = 0) : Asc l := by
  unfold Smp.sampF at h
  split at h
  · simp at h
  · split at h
    · rename_i ho; exact asc_of fun i hi => ho i hi
    · simp at h
theorem ints_one (l : List Int) : ∀ u ∈ l.map (Value.int .i64), u.oneCell' = true := by
  intro u hu; simp at hu; obtain ⟨z, _, rfl⟩ := hu; rfl
noncomputable def joinAll (l m : List (List Int)) : List (List Int) × Int := if Smp.sampF l = 0 then if Smp.sampF m = 0 then joinR bothS bigS l m else ([], Smp.sampF m) else ([], Smp.sampF l)
theorem rowK (r : List Int) (h : r.length = 2) : ∃ x0 x1 : Int, r = [x0, x1] := by
  match r, h with
  | [x0, x1], _ => exact ⟨x0, x1, rfl⟩
def lenOf : Value → Nat
  | .slice _ n _ => n
  | _ => 0

set_option maxHeartbeats 4000000 in
set_option maxRecDepth 100000 in
theorem merge_any (v u : Value) (n o : Nat) (l m : List (List Int)) (w : World) (hs : Sl w 2 v n (rowCells l)) (ht : Sl w 2 u o (rowCells m)) (hl : l.length = n) (hm : m.length = o) (hrl : Rows64 2 l) (hrm : Rows64 2 m) (hn : n ≤ 140737488355328) (ho : o ≤ 140737488355328) :
    Calls Try.prog 31 #[v, u] w (RowPost 90 2 w (joinAll l m)) := by
  obtain ⟨ao, c, rfl, hnc, hc, _⟩ := hs.shape
  obtain ⟨bo, d, rfl, hod, hd, _⟩ := ht.shape
  have HL := Lib.hid hl
  have HM := Lib.hid hm
  obtain ⟨e1, he1⟩ : ∃ e, Smp.sampF l = e := ⟨_, rfl⟩
  obtain ⟨e2, he2⟩ : ∃ e, Smp.sampF m = e := ⟨_, rfl⟩
  have HE1 := Lib.hid he1
  have HE2 := Lib.hid he2
  clear hl hm he1 he2
  go_enter Try.func31, Try.ntmps31
  go_wp2_with fail
  obtain ⟨wA, hwA⟩ : ∃ wA, wA = w.alloc (Obj.cells #[.slice ao n c, .slice bo o d] 35) := ⟨_, rfl⟩
  have hA0 : wA.cell? ⟨w.heap.size, 0, none⟩ = some (.slice ao n c) := by rw [hwA]; exact cell_new w _ [_, _] 0 _ rfl
  have hA1 : wA.cell? ⟨w.heap.size, 1, none⟩ = some (.slice bo o d) := by rw [hwA]; exact cell_new w _ [_, _] 1 _ rfl
  have hAs : wA.heap.size = w.heap.size + 1 := by rw [hwA]; simp
  have hAb : Below w.heap.size w wA := by rw [hwA]; exact (Below.refl _ _).alloc (Nat.le_refl _) _
  rw [← hwA]
  have HAS := Lib.hid hAs
  clear hwA hAs
  go_loopw [14] (fun i wr => ∃ k : Int, (k = 0 ∨ k = 1 ∨ k = 2) ∧ i = .int .i64 k ∧ Below wA.heap.size wA wr ∧ Hid ((1 ≤ k → e1 = 0) ∧ (2 ≤ k → e2 = 0))) (fun i _ => (3 - intOf i).toNat)
  case atStart => exact ⟨0, Or.inl rfl, rfl, Below.refl _ _, by constructor <;> intro h <;> omega⟩
  case round =>
    obtain ⟨k, hk, rfl, hbr, hdone⟩ := hrel
    have hsl := (hs.below hAb).below hbr
    have hsm := (ht.below hAb).below hbr
    have hBw : Below w.heap.size w wr := hAb.trans (hbr.mono (by rw [HAS.out]; omega))
    have a0 : wr.cell? ⟨w.heap.size, 0, none⟩ = some (.slice ao n c) := (hbr.cell (p := ⟨w.heap.size, 0, none⟩) (by show w.heap.size < wA.heap.size; rw [HAS.out]; omega)).trans hA0
    have a1 : wr.cell? ⟨w.heap.size, 1, none⟩ = some (.slice bo o d) := (hbr.cell (p := ⟨w.heap.size, 1, none⟩) (by show w.heap.size < wA.heap.size; rw [HAS.out]; omega)).trans hA1
    rcases hk with rfl | rfl | rfl
    · by_cases hz : e1 = 0
      · have HN : Hid ((1 ≤ (1 : Int) → e1 = 0) ∧ (2 ≤ (1 : Int) → e2 = 0)) := ⟨fun _ => hz, fun h => by omega⟩
        have t1 : (e1 != 0) = false := by rw [hz]; rfl
        clear hz
        go_wp2_with (go_at_call 67; refine (Smp.check_any (.slice ao n c) n l _ hsl HL.out hrl hn).mono ?_; rw [HE1.out]; rintro e w1 ⟨rfl, hb1⟩)
        go_roundw
        case rel => exact ⟨1, Or.inr (Or.inl rfl), rfl, hbr.trans (hb1.mono hbr.size), HN⟩
        case measure => simp [intOf]
      · have HF : Hid (joinAll l m = ([], e1)) := by
          show _ = _
          unfold joinAll
          rw [HE1.out, if_neg hz]
        have t1 : (e1 != 0) = true := by rw [bne_iff_ne]; exact hz
        clear hz
        go_wp2_with (go_at_call 67; refine (Smp.check_any (.slice ao n c) n l _ hsl HL.out hrl hn).mono ?_; rw [HE1.out]; rintro e w1 ⟨rfl, hb1⟩)
        go_ret2
        exact rowPost_nil HF.out (hBw.trans (hb1.mono hBw.size))
    · by_cases hz : e2 = 0
      · have HN : Hid ((1 ≤ (2 : Int) → e1 = 0) ∧ (2 ≤ (2 : Int) → e2 = 0)) := ⟨fun _ => hdone.out.1 (by omega), fun _ => hz⟩
        have t1 : (e2 != 0) = false := by rw [hz]; rfl
        clear hz
        go_wp2_with (go_at_call 67; refine (Smp.check_any (.slice bo o d) o m _ hsm HM.out hrm ho).mono ?_; rw [HE2.out]; rintro e w1 ⟨rfl, hb1⟩)
        go_roundw
        case rel => exact ⟨2, Or.inr (Or.inr rfl), rfl, hbr.trans (hb1.mono hbr.size), HN⟩
        case measure => simp [intOf]
      · have HF : Hid (joinAll l m = ([], e2)) := by
          show _ = _
          unfold joinAll
          rw [HE1.out, if_pos (hdone.out.1 (by omega)), HE2.out, if_neg hz]
        have t1 : (e2 != 0) = true := by rw [bne_iff_ne]; exact hz
        clear hz
        go_wp2_with (go_at_call 67; refine (Smp.check_any (.slice bo o d) o m _ hsm HM.out hrm ho).mono ?_; rw [HE2.out]; rintro e w1 ⟨rfl, hb1⟩)
        go_ret2
        exact rowPost_nil HF.out (hBw.trans (hb1.mono hBw.size))
    · have hz1 := hdone.out.1 (by omega)
      have hz2 := hdone.out.2 (by omega)
      have hn2 : n ≤ 1000 := by have := fault_small (HE1.out.trans hz1); rw [HL.out] at this; exact this
      have ho2 : o ≤ 1000 := by have := fault_small (HE2.out.trans hz2); rw [HM.out] at this; exact this
      have HF : Hid (joinAll l m = joinR bothS bigS l m) := by
        show _ = _
        unfold joinAll
        rw [HE1.out, if_pos hz1, HE2.out, if_pos hz2]
      clear hz1 hz2 hdone a0 a1
      go_wp2_with fail
      obtain ⟨wo, rfl⟩ : ∃ wo : World, wo = wr := ⟨_, rfl⟩
      go_loopw [0, 1, 9] (fun ua ub u wr => ∃ p q r : Nat, p + q + r ≤ 2000 ∧ Hid (MRel 90 2 bothS bigS l m w.heap.size p q r w wr ua ub u) ∧ Below w.heap.size w wr) (fun ua ub _ _ => lenOf ua + lenOf ub)
      case atStart => exact ⟨n, o, 0, by omega, ⟨⟨l, m, [], hs, HL.out, hrl.k, ht, HM.out, hrm.k, World.ownsRow_nil _ _ _ _, rfl, by intro r hr; simp at hr, by simp⟩⟩, hBw⟩
      case round =>
        obtain ⟨p, q, r, hpq, ⟨⟨a, b, acc, h1, hla, hra, h2, hlb, hrb, h3, hlc, hrc, hf⟩⟩, hbel⟩ := hrel
        have hsz := hbel.size
        have HLA := Lib.hid hla
        have HLB := Lib.hid hlb
        have HLC := Lib.hid hlc
        have HRA := Lib.hid hra
        have HRB := Lib.hid hrb
        have HRC := Lib.hid hrc
        have HFD := Lib.hid hf
        clear hla hlb hlc hra hrb hrc hf
        obtain ⟨la, lc, rfl, hl1, hl2, _⟩ := h1.shape
        obtain ⟨lb, ld, rfl, hm1, hm2, _⟩ := h2.shape
        obtain ⟨uo, uc, rfl, hu1, hu2, _⟩ := own_shape h3
        by_cases hpq0 : p = 0 ∧ q = 0
        · obtain ⟨rfl, rfl⟩ := hpq0
          have hf := HFD.out
          have ha : a = [] := List.length_eq_zero_iff.1 HLA.out
          have hb : b = [] := List.length_eq_zero_iff.1 HLB.out
          rw [ha, hb, merge_nil, Option.map_some, List.append_nil] at hf
          by_cases hbig : 1000 < r
          · have HRES : Hid (joinAll l m = ([], 2)) := by
              show _ = _
              rw [HF.out]
              unfold joinR
              rw [hf]
              exact if_pos (by rw [HLC.out]; exact hbig)
            clear hf
            go_wp2_with fail
            go_ret2
            exact rowPost_nil HRES.out hbel
          · have HRES : Hid (RowPost 90 2 w (joinAll l m) (.returned (.tuple #[.slice uo r uc, .int .i64 0])) wr) := by
              show RowPost _ _ _ _ _ _
              have : joinAll l m = (acc, 0) := by
                rw [HF.out]
                unfold joinR
                rw [hf]
                exact if_neg (by rw [HLC.out]; exact hbig)
              rw [this]
              exact ⟨_, rfl, by rw [HLC.out]; exact h3, hbel, HRC.out, by rw [HLC.out]; omega⟩
            clear hf h3
            go_wp2_with fail
            go_ret2
            exact HRES.out
        by_cases hq0 : q = 0
        · subst hq0
          have hp0 : ¬ p = 0 := fun h => hpq0 ⟨h, rfl⟩
          clear hpq0
          obtain ⟨p, rfl⟩ : ∃ j, p = j + 1 := ⟨p - 1, by omega⟩
          obtain ⟨x, a', rfl⟩ := cons_of HLA.out
          obtain ⟨b1, off1, rfl, hk1, hck⟩ := (h1.below hbel).head HLA.out HRA.out
          obtain ⟨x0, x1, rfl⟩ := rowK x hk1
          clear hk1
          have c0 : _ = some (Value.int .i64 x0) := hck 0 (by decide)
          have c1 : _ = some (Value.int .i64 x1) := hck 1 (by decide)
          rw [Nat.add_zero] at c0
          clear hck
          obtain ⟨ta1, ta2⟩ := tail_spec h1 rfl
          have i1 : (0 : Int) < ((p + 1 : Nat) : Int) := by omega
          have k1 : (1 : Int) ≤ (p : Int) + 1 := by omega
          have j1 : (((p + 1 : Nat) : Int) == 0) = false := beq_eq_false_iff_ne.2 (by omega)
          have j1' : ((p : Int) + 1 == 0) = false := beq_eq_false_iff_ne.2 (by omega)
          have l1 : decide ((0 : Int) < (p : Int) + 1) = true := decide_eq_true (by omega)
          have HLT : Hid (∀ y b', b = y :: b' → rg [x0, x1] 0 < rg y 0) := by
            intro y b' h
            have := HLB.out
            rw [h] at this; simp at this
          clear hp0
          go_wp2_with fail
          go_quiet (fail)
          go_wp2_with fail
          by_cases hcap : lc = 1
          · have HT := Lib.hid (ta1 hcap)
            subst hcap
            obtain rfl : p = 0 := by omega
            clear ta1 ta2
            go_region_law (first | (refine step_app1 ([x0, x1].map (Value.int .i64)) elSmp rfl _ _ rfl (by exact h3) (by first | exact below_drewN hbel _ | exact (below_drewN hbel _).drew) (Nat.le_refl _) hsz rfl rfl rfl (ints_one _) (by omega) (by omega) ?_; intro g cap w2 hown' hbel' hgr'))
            all_goals
              have HREL : Hid (MRel 90 2 bothS bigS l m w.heap.size _ _ _ w _ _ _ _) := mrel_a HT.out HLA.out HRA.out h2 HLB.out HRB.out hown' HLC.out HRC.out HFD.out HLT.out
              clear hown' hgr'
              go_simp
              go_wp2_with fail
              go_roundw
              case rel => exact ⟨_, _, _, by omega, HREL, hbel'⟩
              case measure => first | (simp [lenOf]; done) | (simp [lenOf]; omega)
          · have HT := Lib.hid (ta2 hcap)
            clear ta1 ta2
            go_region_law (first | (refine step_app1 ([x0, x1].map (Value.int .i64)) elSmp rfl _ _ rfl (by exact h3) (by first | exact below_drewN hbel _ | exact (below_drewN hbel _).drew) (Nat.le_refl _) hsz rfl rfl rfl (ints_one _) (by omega) (by omega) ?_; intro g cap w2 hown' hbel' hgr'))
            all_goals
              have HREL : Hid (MRel 90 2 bothS bigS l m w.heap.size _ _ _ w _ _ _ _) := mrel_a HT.out HLA.out HRA.out h2 HLB.out HRB.out hown' HLC.out HRC.out HFD.out HLT.out
              clear hown' hgr'
              go_simp
              go_wp2_with fail
              go_roundw
              case rel => exact ⟨_, _, _, by omega, HREL, hbel'⟩
              case measure => first | (simp [lenOf]; done) | (simp [lenOf]; omega)
        by_cases hp0 : p = 0
        · subst hp0
          clear hpq0
          obtain ⟨q, rfl⟩ : ∃ j, q = j + 1 := ⟨q - 1, by omega⟩
          obtain ⟨y, b', rfl⟩ := cons_of HLB.out
          obtain ⟨b2, off2, rfl, hk2, hdk⟩ := (h2.below hbel).head HLB.out HRB.out
          obtain ⟨y0, y1, rfl⟩ := rowK y hk2
          clear hk2
          have d0 : _ = some (Value.int .i64 y0) := hdk 0 (by decide)
          have d1 : _ = some (Value.int .i64 y1) := hdk 1 (by decide)
          rw [Nat.add_zero] at d0
          clear hdk
          obtain ⟨tb1, tb2⟩ := tail_spec h2 rfl
          have i2 : (0 : Int) < ((q + 1 : Nat) : Int) := by omega
          have k2 : (1 : Int) ≤ (q : Int) + 1 := by omega
          have j2 : (((q + 1 : Nat) : Int) == 0) = false := beq_eq_false_iff_ne.2 (by omega)
          have j2' : ((q : Int) + 1 == 0) = false := beq_eq_false_iff_ne.2 (by omega)
          have l2 : decide ((0 : Int) < (q : Int) + 1) = true := decide_eq_true (by omega)
          have HLT : Hid (∀ x a', a = x :: a' → rg [y0, y1] 0 < rg x 0) := by
            intro x a' h
            have := HLA.out
            rw [h] at this; simp at this
          clear hq0
          go_wp2_with fail
          go_quiet (fail)
          go_wp2_with fail
          go_quiet (fail)
          go_wp2_with fail
          by_cases hcap : ld = 1
          · have HT := Lib.hid (tb1 hcap)
            subst hcap
            obtain rfl : q = 0 := by omega
            clear tb1 tb2
            go_region_law (first | (refine step_app1 ([y0, y1].map (Value.int .i64)) elSmp rfl _ _ rfl (by exact h3) (by first | exact below_drewN hbel _ | exact (below_drewN hbel _).drew) (Nat.le_refl _) hsz rfl rfl rfl (ints_one _) (by omega) (by omega) ?_; intro g cap w2 hown' hbel' hgr'))
            all_goals
              have HREL : Hid (MRel 90 2 bothS bigS l m w.heap.size _ _ _ w _ _ _ _) := mrel_b h1 HLA.out HRA.out HT.out HLB.out HRB.out hown' HLC.out HRC.out HFD.out HLT.out
              clear hown' hgr'
              go_simp
              go_wp2_with fail
              go_roundw
              case rel => exact ⟨_, _, _, by omega, HREL, hbel'⟩
              case measure => first | (simp [lenOf]; done) | (simp [lenOf]; omega)
          · have HT := Lib.hid (tb2 hcap)
            clear tb1 tb2
            go_region_law (first | (refine step_app1 ([y0, y1].map (Value.int .i64)) elSmp rfl _ _ rfl (by exact h3) (by first | exact below_drewN hbel _ | exact (below_drewN hbel _).drew) (Nat.le_refl _) hsz rfl rfl rfl (ints_one _) (by omega) (by omega) ?_; intro g cap w2 hown' hbel' hgr'))
            all_goals
              have HREL : Hid (MRel 90 2 bothS bigS l m w.heap.size _ _ _ w _ _ _ _) := mrel_b h1 HLA.out HRA.out HT.out HLB.out HRB.out hown' HLC.out HRC.out HFD.out HLT.out
              clear hown' hgr'
              go_simp
              go_wp2_with fail
              go_roundw
              case rel => exact ⟨_, _, _, by omega, HREL, hbel'⟩
              case measure => first | (simp [lenOf]; done) | (simp [lenOf]; omega)
        clear hpq0
        obtain ⟨p, rfl⟩ : ∃ j, p = j + 1 := ⟨p - 1, by omega⟩
        obtain ⟨x, a', rfl⟩ := cons_of HLA.out
        obtain ⟨b1, off1, rfl, hk1, hck⟩ := (h1.below hbel).head HLA.out HRA.out
        obtain ⟨x0, x1, rfl⟩ := rowK x hk1
        clear hk1
        have c0 : _ = some (Value.int .i64 x0) := hck 0 (by decide)
        have c1 : _ = some (Value.int .i64 x1) := hck 1 (by decide)
        rw [Nat.add_zero] at c0
        clear hck
        obtain ⟨ta1, ta2⟩ := tail_spec h1 rfl
        have i1 : (0 : Int) < ((p + 1 : Nat) : Int) := by omega
        have k1 : (1 : Int) ≤ (p : Int) + 1 := by omega
        have j1 : (((p + 1 : Nat) : Int) == 0) = false := beq_eq_false_iff_ne.2 (by omega)
        have j1' : ((p : Int) + 1 == 0) = false := beq_eq_false_iff_ne.2 (by omega)
        have l1 : decide ((0 : Int) < (p : Int) + 1) = true := decide_eq_true (by omega)
        obtain ⟨q, rfl⟩ : ∃ j, q = j + 1 := ⟨q - 1, by omega⟩
        obtain ⟨y, b', rfl⟩ := cons_of HLB.out
        obtain ⟨b2, off2, rfl, hk2, hdk⟩ := (h2.below hbel).head HLB.out HRB.out
        obtain ⟨y0, y1, rfl⟩ := rowK y hk2
        clear hk2
        have d0 : _ = some (Value.int .i64 y0) := hdk 0 (by decide)
        have d1 : _ = some (Value.int .i64 y1) := hdk 1 (by decide)
        rw [Nat.add_zero] at d0
        clear hdk
        obtain ⟨tb1, tb2⟩ := tail_spec h2 rfl
        have i2 : (0 : Int) < ((q + 1 : Nat) : Int) := by omega
        have k2 : (1 : Int) ≤ (q : Int) + 1 := by omega
        have j2 : (((q + 1 : Nat) : Int) == 0) = false := beq_eq_false_iff_ne.2 (by omega)
        have j2' : ((q : Int) + 1 == 0) = false := beq_eq_false_iff_ne.2 (by omega)
        have l2 : decide ((0 : Int) < (q : Int) + 1) = true := decide_eq_true (by omega)
        clear hp0 hq0
        rcases Int.lt_trichotomy x0 y0 with hlt | heq | hgt
        · have HLT : Hid (∀ z b'', [y0, y1] :: b' = z :: b'' → rg [x0, x1] 0 < rg z 0) := by
            intro z b'' h
            simp at h
            rw [← h.1]
            exact hlt
          have n1 : decide (x0 < y0) = true := decide_eq_true hlt
          go_wp2_with fail
          go_quiet (fail)
          go_wp2_with fail
          by_cases hcap : lc = 1
          · have HT := Lib.hid (ta1 hcap)
            subst hcap
            obtain rfl : p = 0 := by omega
            clear ta1 ta2 tb1 tb2
            go_region_law (first | (refine step_app1 ([x0, x1].map (Value.int .i64)) elSmp rfl _ _ rfl (by exact h3) (by first | exact below_drewN hbel _ | exact (below_drewN hbel _).drew) (Nat.le_refl _) hsz rfl rfl rfl (ints_one _) (by omega) (by omega) ?_; intro g cap w2 hown' hbel' hgr'))
            all_goals
              have HREL : Hid (MRel 90 2 bothS bigS l m w.heap.size _ _ _ w _ _ _ _) := mrel_a HT.out HLA.out HRA.out h2 HLB.out HRB.out hown' HLC.out HRC.out HFD.out HLT.out
              clear hown' hgr'
              go_simp
              go_wp2_with fail
              go_roundw
              case rel => exact ⟨_, _, _, by omega, HREL, hbel'⟩
              case measure => first | (simp [lenOf]; done) | (simp [lenOf]; omega)
          · have HT := Lib.hid (ta2 hcap)
            clear ta1 ta2 tb1 tb2
            go_region_law (first | (refine step_app1 ([x0, x1].map (Value.int .i64)) elSmp rfl _ _ rfl (by exact h3) (by first | exact below_drewN hbel _ | exact (below_drewN hbel _).drew) (Nat.le_refl _) hsz rfl rfl rfl (ints_one _) (by omega) (by omega) ?_; intro g cap w2 hown' hbel' hgr'))
            all_goals
              have HREL : Hid (MRel 90 2 bothS bigS l m w.heap.size _ _ _ w _ _ _ _) := mrel_a HT.out HLA.out HRA.out h2 HLB.out HRB.out hown' HLC.out HRC.out HFD.out HLT.out
              clear hown' hgr'
              go_simp
              go_wp2_with fail
              go_roundw
              case rel => exact ⟨_, _, _, by omega, HREL, hbel'⟩
              case measure => first | (simp [lenOf]; done) | (simp [lenOf]; omega)
        · subst heq
          obtain ⟨mx, hmx⟩ : ∃ mx, max x1 y1 = mx := ⟨_, rfl⟩
          have HB : Hid (bothS [x0, x1] [x0, y1] = [x0, mx]) := by show [x0, max x1 y1] = _; rw [hmx]
          have HMX : Hid ((if x1 < y1 then y1 else x1) = mx) := by
            show _ = _
            rw [← hmx, Int.max_def]
            split <;> split <;> omega
          clear hmx
          have n1 : decide (x0 < x0) = false := decide_eq_false (by omega)
          go_wp2_with fail
          go_quiet (fail)
          go_wp2_with fail
          go_quiet (fail)
          go_wp2_with fail
          go_upto_region 10 with (fail)
          go_cut [9] (fun u' wx => ∃ g cap, u' = .slice (some ⟨g, 0, none⟩) (r + 1) cap ∧ wx.ownsRow w.heap.size 90 2 u' (r + 1) (rowCells acc ++ [x0, mx].map (Value.int .i64)) ∧ Below w.heap.size w wx)
          case first =>
            rcases Int.lt_or_le x1 y1 with hm | hm
            · have hmm : y1 = mx := by have := HMX.out; rwa [if_pos hm] at this
              subst hmm
              go_region_law (first | (refine step_app1 ([x0, y1].map (Value.int .i64)) elSmp rfl _ _ rfl (by exact h3) (by first | exact below_drewN hbel _ | exact (below_drewN hbel _).drew) (Nat.le_refl _) hsz rfl rfl rfl (ints_one _) (by omega) (by omega) ?_; intro g cap w2 hown' hbel' hgr'))
              all_goals
                go_simp
                go_wp2_with fail
                go_meet
                exact ⟨g, cap, rfl, hown', hbel'⟩
            · have hmm : x1 = mx := by have := HMX.out; rwa [if_neg (by omega)] at this
              subst hmm
              have hmn : ¬ x1 < y1 := by omega
              go_region_law (first | (refine step_app1 ([x0, x1].map (Value.int .i64)) elSmp rfl _ _ rfl (by exact h3) (by first | exact below_drewN hbel _ | exact (below_drewN hbel _).drew) (Nat.le_refl _) hsz rfl rfl rfl (ints_one _) (by omega) (by omega) ?_; intro g cap w2 hown' hbel' hgr'))
              all_goals
                go_simp
                go_wp2_with fail
                go_meet
                exact ⟨g, cap, rfl, hown', hbel'⟩
          case rest =>
            obtain ⟨g, cap, rfl, hown', hbel'⟩ := hcut
            have HOW : Hid (wc.ownsRow w.heap.size 90 2 (.slice (some ⟨g, 0, none⟩) (r + 1) cap) (r + 1) (rowCells acc ++ (bothS [x0, x1] [x0, y1]).map (Value.int .i64))) := by rw [HB.out]; exact hown'
            clear hown' c0 d0 c1 d1
            by_cases hca : lc = 1 <;> by_cases hcb : ld = 1
            · have HTA := Lib.hid (ta1 hca)
              have HTB := Lib.hid (tb1 hcb)
              subst hca
              obtain rfl : p = 0 := by omega
              subst hcb
              obtain rfl : q = 0 := by omega
              have HREL : Hid (MRel 90 2 bothS bigS l m w.heap.size _ _ _ w wc _ _ _) := mrel_ab HTA.out HLA.out HRA.out HTB.out HLB.out HRB.out HOW.out HLC.out HRC.out rfl HFD.out rfl rfl
              clear ta1 ta2 tb1 tb2
              go_wp2_with fail
              go_quiet (fail)
              go_wp2_with fail
              go_roundw
              case rel => exact ⟨_, _, _, by omega, ⟨HREL.out.ex⟩, below_drewN hbel' _⟩
              case measure => first | (simp [lenOf]; done) | (simp [lenOf]; omega)
            · have HTA := Lib.hid (ta1 hca)
              have HTB := Lib.hid (tb2 hcb)
              subst hca
              obtain rfl : p = 0 := by omega
              have HREL : Hid (MRel 90 2 bothS bigS l m w.heap.size _ _ _ w wc _ _ _) := mrel_ab HTA.out HLA.out HRA.out HTB.out HLB.out HRB.out HOW.out HLC.out HRC.out rfl HFD.out rfl rfl
              clear ta1 ta2 tb1 tb2
              go_wp2_with fail
              go_quiet (fail)
              go_wp2_with fail
              go_roundw
              case rel => exact ⟨_, _, _, by omega, ⟨HREL.out.ex⟩, below_drewN hbel' _⟩
              case measure => first | (simp [lenOf]; done) | (simp [lenOf]; omega)
            · have HTA := Lib.hid (ta2 hca)
              have HTB := Lib.hid (tb1 hcb)
              subst hcb
              obtain rfl : q = 0 := by omega
              have HREL : Hid (MRel 90 2 bothS bigS l m w.heap.size _ _ _ w wc _ _ _) := mrel_ab HTA.out HLA.out HRA.out HTB.out HLB.out HRB.out HOW.out HLC.out HRC.out rfl HFD.out rfl rfl
              clear ta1 ta2 tb1 tb2
              go_wp2_with fail
              go_quiet (fail)
              go_wp2_with fail
              go_roundw
              case rel => exact ⟨_, _, _, by omega, ⟨HREL.out.ex⟩, below_drewN hbel' _⟩
              case measure => first | (simp [lenOf]; done) | (simp [lenOf]; omega)
            · have HTA := Lib.hid (ta2 hca)
              have HTB := Lib.hid (tb2 hcb)
              have HREL : Hid (MRel 90 2 bothS bigS l m w.heap.size _ _ _ w wc _ _ _) := mrel_ab HTA.out HLA.out HRA.out HTB.out HLB.out HRB.out HOW.out HLC.out HRC.out rfl HFD.out rfl rfl
              clear ta1 ta2 tb1 tb2
              go_wp2_with fail
              go_quiet (fail)
              go_wp2_with fail
              go_roundw
              case rel => exact ⟨_, _, _, by omega, ⟨HREL.out.ex⟩, below_drewN hbel' _⟩
              case measure => first | (simp [lenOf]; done) | (simp [lenOf]; omega)
        · have HLT : Hid (∀ z a'', [x0, x1] :: a' = z :: a'' → rg [y0, y1] 0 < rg z 0) := by
            intro z a'' h
            simp at h
            rw [← h.1]
            exact hgt
          have n1 : decide (x0 < y0) = false := decide_eq_false (by omega)
          have n2 : decide (y0 < x0) = true := decide_eq_true hgt
          go_wp2_with fail
          go_quiet (fail)
          go_wp2_with fail
          go_quiet (fail)
          go_wp2_with fail
          by_cases hcap : ld = 1
          · have HT := Lib.hid (tb1 hcap)
            subst hcap
            obtain rfl : q = 0 := by omega
            clear ta1 ta2 tb1 tb2
            go_region_law (first | (refine step_app1 ([y0, y1].map (Value.int .i64)) elSmp rfl _ _ rfl (by exact h3) (by first | exact below_drewN hbel _ | exact (below_drewN hbel _).drew) (Nat.le_refl _) hsz rfl rfl rfl (ints_one _) (by omega) (by omega) ?_; intro g cap w2 hown' hbel' hgr'))
            all_goals
              have HREL : Hid (MRel 90 2 bothS bigS l m w.heap.size _ _ _ w _ _ _ _) := mrel_b h1 HLA.out HRA.out HT.out HLB.out HRB.out hown' HLC.out HRC.out HFD.out HLT.out
              clear hown' hgr'
              go_simp
              go_wp2_with fail
              go_roundw
              case rel => exact ⟨_, _, _, by omega, HREL, hbel'⟩
              case measure => first | (simp [lenOf]; done) | (simp [lenOf]; omega)
          · have HT := Lib.hid (tb2 hcap)
            clear ta1 ta2 tb1 tb2
            go_region_law (first | (refine step_app1 ([y0, y1].map (Value.int .i64)) elSmp rfl _ _ rfl (by exact h3) (by first | exact below_drewN hbel _ | exact (below_drewN hbel _).drew) (Nat.le_refl _) hsz rfl rfl rfl (ints_one _) (by omega) (by omega) ?_; intro g cap w2 hown' hbel' hgr'))
            all_goals
              have HREL : Hid (MRel 90 2 bothS bigS l m w.heap.size _ _ _ w _ _ _ _) := mrel_b h1 HLA.out HRA.out HT.out HLB.out HRB.out hown' HLC.out HRC.out HFD.out HLT.out
              clear hown' hgr'
              go_simp
              go_wp2_with fail
              go_roundw
              case rel => exact ⟨_, _, _, by omega, HREL, hbel'⟩
              case measure => first | (simp [lenOf]; done) | (simp [lenOf]; omega)
end Go.Proofs.Ytmbmognhbljliaa.Merge
