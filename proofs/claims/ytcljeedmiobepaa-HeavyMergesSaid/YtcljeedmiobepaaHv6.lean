/-
  Tallies of what is heavy: the walk of Add.
-/
import Derived.Test.YtcljeedmiobepaaHv5
import Derived.Test.YtcljeedmiobepaaInsCt
namespace Go.Proofs.Ytcljeedmiobepaa.Hv
open Go.RowKit Go.Gh
set_option linter.unusedVariables false
noncomputable def addR (s : Hv) (key : ByteArray) : Hv × Int := if heavyF s = 0 then if 40 < key.size ∨ s.n = 1000000000 then (hv0, 2) else (tallyF s key, 0) else (hv0, heavyF s)
theorem mild_of {s : Hv} (h : wellH s) : Mild s.l := by
  have h1 := headH_ok.1 h.1
  have h2 := sumN_pos s.l.length (Nat.le_refl _) h.2.1
  rw [List.take_length] at h2
  have h3 := mul_nn h1.1 h1.2.2.2.2.2.1
  have h4 := h.2.2
  intro x hx
  obtain ⟨i, hi⟩ := List.mem_iff_getElem?.1 hx
  have h5 := h2.2 i x (List.getElem?_eq_some_iff.1 hi).1 hi
  have h6 := oneOk_pos (h.2.1 i x (List.getElem?_eq_some_iff.1 hi).1 hi)
  omega
theorem short_of {s : Hv} (h : wellH s) : Short s.l := fun x hx => ((ris_of h.2.1).1 x hx).1
theorem pc_ones {w : World} {P : List (Ct × List Value)} (h : ∀ q ∈ P, CtR w q.1 q.2) : ∀ u ∈ pc P, u.oneCell' = true := by
  intro u hu
  obtain ⟨q, hq, hu⟩ := List.mem_flatMap.1 hu
  have h1 : q.2 = [.string q.1.ky, .int .i64 q.1.n] := h q hq
  rw [h1] at hu
  simp at hu
  rcases hu with rfl | rfl <;> rfl
/-- Two boxes beside each other. -/
theorem pc_setG {α : Type} {k : Nat} : ∀ {P : List (α × List Value)} {i j : Nat} {a a' : α} {cs : List Value} {u : Value}, PK k P → P[i]? = some (a, cs) → j < k → (pc P).set (i * k + j) u = pc (P.set i (a', cs.set j u))
  | [], i, j, a, a', cs, u, _, h, _ => by simp at h
  | q :: P, 0, j, a, a', cs, u, h, hi, hj => by
    have hq : q = (a, cs) := by simpa using hi
    subst hq
    have hl := h (a, cs) (by simp)
    rw [pc_cons, Nat.zero_mul, Nat.zero_add, List.set_append_left _ _ (by rw [hl]; exact hj), List.set_cons_zero, pc_cons]
  | q :: P, i + 1, j, a, a', cs, u, h, hi, hj => by
    have hq := h q (by simp)
    rw [pc_cons, Nat.succ_mul, List.set_append_right _ _ (by rw [hq]; omega), hq, show i * k + k + j - k = i * k + j from by omega, pc_setG (a' := a') (fun r hr => h r (by simp [hr])) (by simpa using hi) hj, List.set_cons_succ, pc_cons]
theorem two_boxes {w : World} (o o' : Obj) : ((w.alloc o).alloc o').heap[w.heap.size]? = some o ∧ ((w.alloc o).alloc o').heap[w.heap.size + 1]? = some o' := ⟨two_first w o o', two_second w o o'⟩
set_option maxHeartbeats 8000000 in
set_option maxRecDepth 100000 in
theorem add_any (v : Value) (s : Hv) (key : ByteArray) (w : World) (hv : HvV w v s) : Calls Try.prog 50 #[v, .string key] w (HvPost w (addR s key)) := by
  have HV := Lib.hid hv
  obtain ⟨t, rfl, hs⟩ := hv
  obtain ⟨ao, c, rfl, hnc, hc⟩ := hs.shape
  obtain ⟨m, hm⟩ : ∃ m, s.l.length = m := ⟨_, rfl⟩
  rw [hm] at hs hnc HV ⊢
  have HM := Lib.hid hm
  have HS := Lib.hid hs
  clear hm hs
  obtain ⟨wA, hwA⟩ : ∃ wA, wA = (w.alloc (Obj.cells #[.int .i64 s.k, .slice ao m c, .int .i64 s.n, .int .i64 s.off] 86)).alloc (Obj.cells #[.int .i64 0, .slice none 0 0, .int .i64 0, .int .i64 0] 86) := ⟨_, rfl⟩
  have hb1 : wA.heap[w.heap.size]? = some (.cells #[.int .i64 s.k, .slice ao m c, .int .i64 s.n, .int .i64 s.off] 86 (0, 0)) := by rw [hwA]; exact two_first w _ _
  have hb2 : wA.heap[w.heap.size + 1]? = some (.cells #[.int .i64 0, .slice none 0 0, .int .i64 0, .int .i64 0] 86 (0, 0)) := by rw [hwA]; exact two_second w _ _
  have hbA : Below w.heap.size w wA := by rw [hwA]; exact ((Below.refl _ _).alloc (Nat.le_refl _) _).alloc (by simp) _
  have hsA : wA.heap.size = w.heap.size + 1 + 1 := by rw [hwA]; simp
  have HW := Lib.hid hwA
  have HBA := Lib.hid hbA
  have HSA := Lib.hid hsA
  have HB1 := Lib.hid hb1
  have HB2 := Lib.hid hb2
  clear hwA hbA hsA hb1 hb2
  go_enter Try.func50, Try.ntmps50
  go_upto_region 1 with (fail)
  rw [← HW.out]
  obtain ⟨bx, hbx⟩ : ∃ bx, w.heap.size = bx := ⟨_, rfl⟩
  have HBX := Lib.hid hbx
  have hx1 := HB1.out
  have hx2 := HB2.out
  rw [hbx] at hx1 hx2 ⊢
  obtain ⟨⟨d0, d1, d2, d3⟩, -⟩ := bx4 hx1
  obtain ⟨E, hE⟩ : ∃ E, heavyF s = E := ⟨_, rfl⟩
  have HE := Lib.hid hE
  have hva := HV.out.below HBA.out
  clear hE hbx
  go_wp2_with fail
  refine (hvcheck_any _ s _ hva).mono ?_
  rw [HE.out]
  rintro e w1 ⟨rfl, hbq⟩
  have hl1 : bx < wA.heap.size := (Array.getElem?_eq_some_iff.1 hx1).1
  have hl2 : bx + 1 < wA.heap.size := (Array.getElem?_eq_some_iff.1 hx2).1
  have y1 := (hbq.block _ hl1).trans hx1
  have y2 := (hbq.block _ hl2).trans hx2
  have HBW := Lib.hid (HBA.out.trans (hbq.mono HBA.out.size))
  have hwb : w.heap.size ≤ bx := Nat.le_of_eq HBX.out
  clear d0 d1 d2 d3 hva hbq hx1 hx2
  obtain ⟨⟨d0, d1, d2, d3⟩, ⟨f0, f1, f2, f3⟩⟩ := bx4 y1
  obtain ⟨⟨q0, q1, q2, q3⟩, ⟨g0, g1, g2, g3⟩⟩ := bx4 y2
  have hst := bx4_store (.int .i64 0) (.slice none 0 0) (.int .i64 0) (.int .i64 0) y2
  obtain ⟨⟨s0, s1, s2, s3⟩, -⟩ := bx4 hst
  have HBZ := Lib.hid (bx4_below (.int .i64 0) (.slice none 0 0) (.int .i64 0) (.int .i64 0) (show w.heap.size ≤ bx + 1 by omega) HBW.out)
  by_cases hz : E = 0
  case neg =>
    have t1 : (E != 0) = true := by rw [bne_iff_ne]; exact hz
    have HR : Hid (addR s key = (hv0, E)) := Lib.hid (by unfold addR; rw [HE.out, if_neg hz])
    clear hz hst
    go_wp2_with fail
    refine bodyPost_ret (v := .tuple #[.agg #[.int .i64 0, .slice none 0 0, .int .i64 0, .int .i64 0], .int .i64 E]) (by simp [results, Try.results50, go_sem, s0, s1, s2, s3]) rfl ?_
    show HvPost _ _ _ _
    rw [HR.out]
    exact ⟨_, rfl, hvV_zero _, HBZ.out⟩
  subst hz
  have t1 : ((0 : Int) != 0) = false := rfl
  by_cases hbad : 40 < key.size ∨ s.n = 1000000000
  · have HR : Hid (addR s key = (hv0, 2)) := Lib.hid (by unfold addR; rw [HE.out, if_pos rfl, if_pos hbad])
    by_cases hks : 40 < key.size
    · clear hst hbad
      go_wp2_with fail
      refine bodyPost_ret (v := .tuple #[.agg #[.int .i64 0, .slice none 0 0, .int .i64 0, .int .i64 0], .int .i64 2]) (by simp [results, Try.results50, go_sem, s0, s1, s2, s3]) rfl ?_
      show HvPost _ _ _ _
      rw [HR.out]
      exact ⟨_, rfl, hvV_zero _, HBZ.out⟩
    · have t2 : (s.n == 1000000000) = true := by rw [beq_iff_eq]; omega
      clear hst hbad
      go_wp2_with fail
      refine bodyPost_ret (v := .tuple #[.agg #[.int .i64 0, .slice none 0 0, .int .i64 0, .int .i64 0], .int .i64 2]) (by simp [results, Try.results50, go_sem, s0, s1, s2, s3]) rfl ?_
      show HvPost _ _ _ _
      rw [HR.out]
      exact ⟨_, rfl, hvV_zero _, HBZ.out⟩
  have HR : Hid (addR s key = (tallyF s key, 0)) := Lib.hid (by unfold addR; rw [HE.out, if_pos rfl, if_neg hbad])
  have hbad2 : ¬ 40 < key.size ∧ ¬ s.n = 1000000000 := by omega
  obtain ⟨hks, hns⟩ := hbad2
  have t2 : (s.n == 1000000000) = false := beq_eq_false_iff_ne.2 hns
  have hok := heavy_ok HE.out
  have hhd := headH_ok.1 hok.1
  have hm64 : m ≤ 64 := by have := HM.out; omega
  have hw1 : IntKind.i64.wrap (s.n + 1) = s.n + 1 := IntWalk.i64_in _ (by omega)
  have hw2 : IntKind.i64.wrap (s.off + 1) = s.off + 1 := IntWalk.i64_in _ (by omega)
  have HRIS := Lib.hid (ris_of hok.2.1)
  have HMILD := Lib.hid (mild_of hok)
  have HHD := Lib.hid hhd
  have z1 := row_setCell 2 (.int .i64 (s.n + 1)) y1
  have z2 := row_setCell_other (i := 2) (b' := bx) (.int .i64 (s.n + 1)) y2 (by omega)
  have HBW2 := Lib.hid (HBW.out.setCell (p := ⟨bx, 2, none⟩) hwb (.int .i64 (s.n + 1)))
  have HZ1 := Lib.hid z1
  have HZ2 := Lib.hid z2
  clear hst s0 s1 s2 s3 hbad HBZ z1 z2 hok hhd
  go_upto_region 7 with (fail)
  obtain ⟨w2, hw2e⟩ : ∃ w2, w2 = w1.setCell ⟨bx, 2, none⟩ (.int .i64 (s.n + 1)) := ⟨_, rfl⟩
  have X1 : w2.heap[bx]? = some (.cells #[.int .i64 s.k, .slice ao m c, .int .i64 (s.n + 1), .int .i64 s.off] 86 (0, 0)) := by rw [hw2e]; exact HZ1.out
  have X2 : w2.heap[bx + 1]? = some (.cells #[.int .i64 0, .slice none 0 0, .int .i64 0, .int .i64 0] 86 (0, 0)) := by rw [hw2e]; exact HZ2.out
  have BW2 : Hid (Below w.heap.size w w2) := Lib.hid (by rw [hw2e]; exact HBW2.out)
  rw [← hw2e]
  clear hw2e HZ1 HZ2 HBW2 y1 y2 d0 d1 d2 d3 f0 f1 f2 f3 q0 q1 q2 q3 g0 g1 g2 g3
  obtain ⟨P, hP1, hP2, hP3, hP4⟩ := HS.out.below ctR_mono BW2.out
  rw [HM.out] at hP4
  have HPP := Lib.hid (And.intro hP1 (And.intro hP2 hP3))
  have hone := pc_ones hP3
  have hl1 : bx < w2.heap.size := (Array.getElem?_eq_some_iff.1 X1).1
  have hl2 : bx + 1 < w2.heap.size := (Array.getElem?_eq_some_iff.1 X2).1
  obtain ⟨⟨d0, d1, d2, d3⟩, -⟩ := bx4 X1
  clear hP1 hP2 hP3
  go_wp2_with fail
  refine (clone_ct _ m (pc P) _ hP4 hone (by omega)).mono ?_
  rintro e w3 ⟨v3, rfl, hown3, hb3⟩
  obtain ⟨uo, uc, rfl, -, huc, -⟩ := own_shape hown3
  have hs23 := hb3.size
  have Y1 := (hb3.block _ hl1).trans X1
  have Y2 := (hb3.block _ hl2).trans X2
  have hge : ∀ g, (Value.slice uo m uc).ownBlock = some g → w2.heap.size ≤ g := fun g h => (hown3.lt g h).1
  have NE1 : (Value.slice uo m uc).ownBlock ≠ some bx := fun h => by have := hge _ h; omega
  have NE2 : (Value.slice uo m uc).ownBlock ≠ some (bx + 1) := fun h => by have := hge _ h; omega
  have hown4 := ownsRow_setCell_other hown3 (a := ⟨bx, 1, none⟩) NE1 (.slice uo m uc)
  have BW3 := Lib.hid ((BW2.out.trans (hb3.mono BW2.out.size)).setCell (p := ⟨bx, 1, none⟩) hwb (.slice uo m uc))
  have Z1 := Lib.hid (row_setCell 1 (.slice uo m uc) Y1)
  have Z2 := Lib.hid (row_setCell_other (i := 1) (b' := bx) (.slice uo m uc) Y2 (by omega))
  have HO4 := Lib.hid hown4
  clear d0 d1 d2 d3 X1 X2 hP4 hone hown3 hown4
  obtain ⟨⟨d0, d1, d2, d3⟩, ⟨f0, f1, f2, f3⟩⟩ := bx4 Y1
  clear Y1 Y2 hb3
  go_upto_region 8 with (fail)
  obtain ⟨w4, hw4e⟩ : ∃ w4, w4 = w3.setCell ⟨bx, 1, none⟩ (.slice uo m uc) := ⟨_, rfl⟩
  have X1 : w4.heap[bx]? = some (.cells #[.int .i64 s.k, .slice uo m uc, .int .i64 (s.n + 1), .int .i64 s.off] 86 (0, 0)) := by rw [hw4e]; exact Z1.out
  have X2 : w4.heap[bx + 1]? = some (.cells #[.int .i64 0, .slice none 0 0, .int .i64 0, .int .i64 0] 86 (0, 0)) := by rw [hw4e]; exact Z2.out
  have BW4 : Hid (Below w.heap.size w w4) := Lib.hid (by rw [hw4e]; exact BW3.out)
  have HO : Hid (w4.ownsRow w2.heap.size 175 2 (.slice uo m uc) m (pc P)) := Lib.hid (by rw [hw4e]; exact HO4.out)
  have hs24 : w2.heap.size ≤ w4.heap.size := by rw [hw4e]; simpa using hs23
  rw [← hw4e]
  clear hw4e Z1 Z2 BW3 HO4 d0 d1 d2 d3 f0 f1 f2 f3
  have hl3 : bx < w4.heap.size := (Array.getElem?_eq_some_iff.1 X1).1
  have hl4 : bx + 1 < w4.heap.size := (Array.getElem?_eq_some_iff.1 X2).1
  obtain ⟨⟨d0, d1, d2, d3⟩, -⟩ := bx4 X1
  have HSP : Hid (Sp CtR 2 w4 (.slice uo m uc) s.l) := Lib.hid ⟨P, HPP.out.1, HPP.out.2.1, HPP.out.2.2, by rw [HM.out]; exact own_sl HO.out⟩
  go_wp2_with fail
  refine (find_any _ key s.l _ HSP.out HRIS.out (by omega) (by have := HM.out; omega)).mono ?_
  rintro e w5 ⟨i, rfl, hat, hb5⟩
  obtain ⟨D, hD⟩ : ∃ D, hitB s.l key i = D := ⟨_, rfl⟩
  rw [hD]
  have HD := Lib.hid hD
  have HAT := Lib.hid hat
  have BW5 := Lib.hid (BW4.out.trans (hb5.mono BW4.out.size))
  have HO5 := Lib.hid (own_below HO.out hb5)
  replace X1 := (hb5.block _ hl3).trans X1
  replace X2 := (hb5.block _ hl4).trans X2
  have hsz25 : w2.heap.size ≤ w5.heap.size := Nat.le_trans hs24 hb5.size
  clear d0 d1 d2 d3 hat hD hb5 HO HSP
  obtain ⟨⟨d0, d1, d2, d3⟩, ⟨f0, f1, f2, f3⟩⟩ := bx4 X1
  have hil : i ≤ m := by have := HAT.out.1; have := HM.out; omega
  cases D with
  | true =>
    have hil2 : i < m := by
      rcases Nat.lt_or_ge i m with h | h
      · exact h
      · have := hitB_none (key := key) (show s.l.length ≤ i by rw [HM.out]; exact h)
        rw [HD.out] at this
        simp at this
    obtain ⟨x, hx⟩ : ∃ x, s.l[i]? = some x := ⟨_, List.getElem?_eq_getElem (by rw [HM.out]; exact hil2)⟩
    have hh := HD.out
    rw [hitB_some hx] at hh
    have hkk : kH x.ky = kH key := of_decide_eq_true hh
    have hxn := HMILD.out x (List.mem_of_getElem? hx)
    have hxp := (HRIS.out.1 x (List.mem_of_getElem? hx)).2
    have hw3 : IntKind.i64.wrap (x.n + 1) = x.n + 1 := IntWalk.i64_in _ (by omega)
    have hcn := cntIn_at HAT.out hx hkk
    have hct := cnted_at (n := 1) HRIS.out HAT.out hx hkk
    have htl : tallyF s key = ⟨s.k, s.l.set i ⟨x.ky, x.n + 1⟩, s.n + 1, s.off⟩ := by
      unfold tallyF
      rw [if_pos (Or.inl (by omega)), hct]
    obtain ⟨cs, hp⟩ := pair_at HPP.out.1 hx
    obtain rfl : cs = [.string x.ky, .int .i64 x.n] := HPP.out.2.2 _ (List.mem_of_getElem? hp)
    obtain ⟨g, cap, e1, hg1, hg2, -, -, -⟩ := own_some HO5.out (by omega)
    simp at e1
    obtain ⟨rfl, rfl⟩ := e1
    obtain ⟨hcell, hfz⟩ := own_el HO5.out HPP.out.2.1 hp hil2
    have e1 := hcell 1 _ rfl
    have k1 := hfz 1
    have hgb : bx ≠ g := by omega
    have hgb2 : bx + 1 ≠ g := by omega
    have hst6 := (HO5.out.stored (i * 2 + 1) (.int .i64 (x.n + 1))).1
    rw [pc_setG (a' := ⟨x.ky, x.n + 1⟩) HPP.out.2.1 hp (by decide)] at hst6
    have HFIN : Hid (∀ W, Sl W 2 (.slice (some ⟨g, 0, none⟩) m uc) m (pc (P.set i (⟨x.ky, x.n + 1⟩, [.string x.ky, .int .i64 (x.n + 1)]))) → HvV W (.agg #[.int .i64 s.k, .slice (some ⟨g, 0, none⟩) m uc, .int .i64 (s.n + 1), .int .i64 s.off]) (tallyF s key)) := Lib.hid (fun W h => by
      rw [htl]
      refine ⟨_, rfl, P.set i (⟨x.ky, x.n + 1⟩, [.string x.ky, .int .i64 (x.n + 1)]), by rw [map_set, HPP.out.1], HPP.out.2.1.set rfl i, ?_, ?_⟩
      · exact all_set (Q := fun q => CtR W q.1 q.2) (fun q hq => HPP.out.2.2 q hq) (a := ⟨x.ky, x.n + 1⟩) (c := [.string x.ky, .int .i64 (x.n + 1)]) rfl i
      · dsimp only
        rw [List.length_set, HM.out]
        exact h)
    have HX1 := Lib.hid (row_setCell_other (i := i * 2 + 1) (b' := g) (.int .i64 (x.n + 1)) X1 hgb)
    have HX2 := Lib.hid (row_setCell_other (i := i * 2 + 1) (b' := g) (.int .i64 (x.n + 1)) X2 hgb2)
    have HB6 := Lib.hid (BW5.out.setCell (p := ⟨g, i * 2 + 1, none⟩) (show w.heap.size ≤ g by omega) (.int .i64 (x.n + 1)))
    have HO6 := Lib.hid hst6
    clear hst6 hcell hfz hh hkk hcn hct htl hx hp X1 X2
    go_upto_region 15 with (fail)
    obtain ⟨w6, hw6⟩ : ∃ w6, w6 = w5.setCell ⟨g, i * 2 + 1, none⟩ (.int .i64 (x.n + 1)) := ⟨_, rfl⟩
    have X1 : w6.heap[bx]? = some (.cells #[.int .i64 s.k, .slice (some ⟨g, 0, none⟩) m uc, .int .i64 (s.n + 1), .int .i64 s.off] 86 (0, 0)) := by rw [hw6]; exact HX1.out
    have X2 : w6.heap[bx + 1]? = some (.cells #[.int .i64 0, .slice none 0 0, .int .i64 0, .int .i64 0] 86 (0, 0)) := by rw [hw6]; exact HX2.out
    have BW : Below w.heap.size w w6 := by rw [hw6]; exact HB6.out
    have OWN : w6.ownsRow w2.heap.size 175 2 (.slice (some ⟨g, 0, none⟩) m uc) m (pc (P.set i (⟨x.ky, x.n + 1⟩, [.string x.ky, .int .i64 (x.n + 1)]))) := by rw [hw6]; exact HO6.out
    have NE := NE2
    rw [← hw6]
    clear hw6 HX1 HX2 HB6 HO6 d0 d1 d2 d3 f0 f1 f2 f3 e1 k1
    obtain ⟨⟨a0, a1, a2, a3⟩, -⟩ := bx4 X1
    obtain ⟨⟨r0, r1, r2, r3⟩, ⟨h0, h1, h2, h3⟩⟩ := bx4 X2
    have hst := bx4_store (.int .i64 s.k) (.slice (some ⟨g, 0, none⟩) m uc) (.int .i64 (s.n + 1)) (.int .i64 (s.off)) X2
    obtain ⟨⟨s0, s1, s2, s3⟩, -⟩ := bx4 hst
    have HBF := Lib.hid (bx4_below (.int .i64 s.k) (.slice (some ⟨g, 0, none⟩) m uc) (.int .i64 (s.n + 1)) (.int .i64 (s.off)) (show w.heap.size ≤ bx + 1 by omega) BW)
    have HSF := Lib.hid (own_sl (own_stores_other (b := bx + 1) NE [.int .i64 s.k, .slice (some ⟨g, 0, none⟩) m uc, .int .i64 (s.n + 1), .int .i64 (s.off)] _ 0 OWN))
    clear hst X1 X2 BW OWN NE
    go_wp2_with fail
    refine bodyPost_ret (v := .tuple #[.agg #[.int .i64 s.k, .slice (some ⟨g, 0, none⟩) m uc, .int .i64 (s.n + 1), .int .i64 (s.off)], .int .i64 0]) (by simp [results, Try.results50, go_sem, s0, s1, s2, s3]) rfl ?_
    show HvPost _ _ _ _
    rw [HR.out]
    exact ⟨_, rfl, HFIN.out _ HSF.out, HBF.out⟩
  | false =>
    have hPm : P.length = m := by
      have h1 := congrArg List.length HPP.out.1
      rw [List.length_map, HM.out] at h1
      exact h1
    by_cases hlt : (m : Int) < s.k
    · have htl : tallyF s key = ⟨s.k, s.l.take i ++ ⟨key, 1⟩ :: s.l.drop i, s.n + 1, s.off⟩ := by
        unfold tallyF
        rw [if_pos (Or.inr (by rw [HM.out]; exact hlt)), cnted_ins HRIS.out HAT.out HD.out]
      have HFIN : Hid (∀ W v', Sl W 2 v' (m + 1) (pc (P.take i ++ (⟨key, 1⟩, [.string key, .int .i64 1]) :: P.drop i)) → HvV W (.agg #[.int .i64 s.k, v', .int .i64 (s.n + 1), .int .i64 s.off]) (tallyF s key)) := Lib.hid (fun W v' h => by
        rw [htl]
        refine ⟨_, rfl, P.take i ++ (⟨key, 1⟩, [.string key, .int .i64 1]) :: P.drop i, by rw [map_ins, HPP.out.1], HPP.out.2.1.ins rfl i, ?_, ?_⟩
        · exact all_ins (Q := fun q => CtR W q.1 q.2) (fun q hq => HPP.out.2.2 q hq) (a := ⟨key, 1⟩) (c := [.string key, .int .i64 1]) rfl i
        · have h1 : (s.l.take i ++ ⟨key, 1⟩ :: s.l.drop i).length = m + 1 := by
            rw [List.length_append, List.length_cons, List.length_take, List.length_drop, HM.out]
            omega
          dsimp only
          rw [h1]
          exact h)
      have NE5 : (Value.slice uo m uc).ownBlock ≠ some w5.heap.size := fun h => by have := (HO5.out.lt _ h).2; omega
      have hone := pc_ones HPP.out.2.2
      have hsz5 := BW5.out.size
      clear htl
      go_wp2_with fail
      refine (insert_ct _ m i w2.heap.size w5.heap.size (pc P) [.string key, .int .i64 1] _ (HO5.out.alloc _) (heap_alloc_new w5 _) rfl NE5 hil (by omega) (by simp; omega) hone (by intro u hu; simp at hu; rcases hu with rfl | rfl <;> rfl)).mono ?_
      rintro e w6 ⟨v6, rfl, hown6, hg6⟩
      obtain ⟨ao6, c6, rfl, hnc6, -, -⟩ := own_shape hown6
      rw [pc_take HPP.out.2.1 i, pc_drop HPP.out.2.1 i (by omega), ← pc_ins P ⟨key, 1⟩ [.string key, .int .i64 1] i] at hown6
      have Y1 := grown_block2 hg6 NE1 (show (w5.alloc (Obj.cells [.string key, .int .i64 1].toArray 175)).heap[bx]? = _ from by rw [← X1]; exact heap_alloc_old _ _ (by omega))
      have Y2 := grown_block2 hg6 NE2 (show (w5.alloc (Obj.cells [.string key, .int .i64 1].toArray 175)).heap[bx + 1]? = _ from by rw [← X2]; exact heap_alloc_old _ _ (by omega))
      have HB6 : Below w.heap.size w w6 := Below.grown (BW5.out.alloc hsz5 _) hg6 (by simp; omega) (fun k hk => by have := hge k hk; omega)
      have NE6 : ∀ g, (Value.slice ao6 (m + 1) c6).ownBlock = some g → w2.heap.size ≤ g := fun g h => (hown6.lt g h).1
      have NE : (Value.slice ao6 (m + 1) c6).ownBlock ≠ some (bx + 1) := fun h => by have := NE6 _ h; omega
      have NE7 : (Value.slice ao6 (m + 1) c6).ownBlock ≠ some bx := fun h => by have := NE6 _ h; omega
      have HO7 := Lib.hid (ownsRow_setCell_other hown6 (a := ⟨bx, 1, none⟩) NE7 (.slice ao6 (m + 1) c6))
      have HX1 := Lib.hid (row_setCell 1 (.slice ao6 (m + 1) c6) Y1)
      have HX2 := Lib.hid (row_setCell_other (i := 1) (b' := bx) (.slice ao6 (m + 1) c6) Y2 (by omega))
      have HB7 := Lib.hid (HB6.setCell (p := ⟨bx, 1, none⟩) hwb (.slice ao6 (m + 1) c6))
      clear d0 d1 d2 d3 f0 f1 f2 f3 X1 X2 hown6 hg6 HB6 hone
      obtain ⟨⟨d0, d1, d2, d3⟩, ⟨f0, f1, f2, f3⟩⟩ := bx4 Y1
      clear Y1 Y2
      go_upto_region 15 with (fail)
      obtain ⟨w7, hw7⟩ : ∃ w7, w7 = w6.setCell ⟨bx, 1, none⟩ (.slice ao6 (m + 1) c6) := ⟨_, rfl⟩
      have X1 : w7.heap[bx]? = some (.cells #[.int .i64 s.k, .slice ao6 (m + 1) c6, .int .i64 (s.n + 1), .int .i64 s.off] 86 (0, 0)) := by rw [hw7]; exact HX1.out
      have X2 : w7.heap[bx + 1]? = some (.cells #[.int .i64 0, .slice none 0 0, .int .i64 0, .int .i64 0] 86 (0, 0)) := by rw [hw7]; exact HX2.out
      have BW : Below w.heap.size w w7 := by rw [hw7]; exact HB7.out
      have OWN : w7.ownsRow w2.heap.size 175 2 (.slice ao6 (m + 1) c6) (m + 1) (pc (P.take i ++ (⟨key, 1⟩, [.string key, .int .i64 1]) :: P.drop i)) := by rw [hw7]; exact HO7.out
      rw [← hw7]
      clear hw7 HX1 HX2 HB7 HO7 d0 d1 d2 d3 f0 f1 f2 f3
      obtain ⟨⟨a0, a1, a2, a3⟩, -⟩ := bx4 X1
      obtain ⟨⟨r0, r1, r2, r3⟩, ⟨h0, h1, h2, h3⟩⟩ := bx4 X2
      have hst := bx4_store (.int .i64 s.k) (.slice ao6 (m + 1) c6) (.int .i64 (s.n + 1)) (.int .i64 (s.off)) X2
      obtain ⟨⟨s0, s1, s2, s3⟩, -⟩ := bx4 hst
      have HBF := Lib.hid (bx4_below (.int .i64 s.k) (.slice ao6 (m + 1) c6) (.int .i64 (s.n + 1)) (.int .i64 (s.off)) (show w.heap.size ≤ bx + 1 by omega) BW)
      have HSF := Lib.hid (own_sl (own_stores_other (b := bx + 1) NE [.int .i64 s.k, .slice ao6 (m + 1) c6, .int .i64 (s.n + 1), .int .i64 (s.off)] _ 0 OWN))
      clear hst X1 X2 BW OWN NE
      go_wp2_with fail
      refine bodyPost_ret (v := .tuple #[.agg #[.int .i64 s.k, .slice ao6 (m + 1) c6, .int .i64 (s.n + 1), .int .i64 (s.off)], .int .i64 0]) (by simp [results, Try.results50, go_sem, s0, s1, s2, s3]) rfl ?_
      show HvPost _ _ _ _
      rw [HR.out]
      exact ⟨_, rfl, HFIN.out _ _ HSF.out, HBF.out⟩
    · have htl : tallyF s key = ⟨s.k, lessF 1 s.l, s.n + 1, s.off + 1⟩ := by
        unfold tallyF
        rw [if_neg (by rw [cntIn_none HRIS.out HAT.out HD.out, HM.out]; omega)]
      have HSP5 : Hid (Sp CtR 2 w5 (.slice uo m uc) s.l) := Lib.hid ⟨P, HPP.out.1, HPP.out.2.1, HPP.out.2.2, by rw [HM.out]; exact own_sl HO5.out⟩
      have hx5 : bx < w5.heap.size := (Array.getElem?_eq_some_iff.1 X1).1
      have hx6 : bx + 1 < w5.heap.size := (Array.getElem?_eq_some_iff.1 X2).1
      have HTL := Lib.hid htl
      clear htl
      go_wp2_with fail
      refine (less_any _ 1 s.l _ HSP5.out (by have := HM.out; omega) (by omega) (by omega) HMILD.out).mono ?_
      rintro e w6 ⟨v6, rfl, how6, hb6⟩
      obtain ⟨q, hq⟩ : ∃ q, (lessF 1 s.l).length = q := ⟨_, rfl⟩
      obtain ⟨Q, hQ1, hQ2, hQ3, hown6⟩ := how6
      rw [hq] at hown6
      obtain ⟨ao6, c6, rfl, hnc6, -, -⟩ := own_shape hown6
      have Y1 := (hb6.block _ hx5).trans X1
      have Y2 := (hb6.block _ hx6).trans X2
      have HB6 : Below w.heap.size w w6 := BW5.out.trans (hb6.mono BW5.out.size)
      have NE6 : ∀ g, (Value.slice ao6 q c6).ownBlock = some g → w5.heap.size ≤ g := fun g h => (hown6.lt g h).1
      have NE : (Value.slice ao6 q c6).ownBlock ≠ some (bx + 1) := fun h => by have := NE6 _ h; omega
      have NE7 : (Value.slice ao6 q c6).ownBlock ≠ some bx := fun h => by have := NE6 _ h; omega
      have HO7 := Lib.hid (ownsRow_setCell_other (ownsRow_setCell_other hown6 (a := ⟨bx, 1, none⟩) NE7 (.slice ao6 q c6)) (a := ⟨bx, 3, none⟩) NE7 (.int .i64 (s.off + 1)))
      have HY := Lib.hid (row_setCell 1 (.slice ao6 q c6) Y1)
      have HX1 := Lib.hid (row_setCell 3 (.int .i64 (s.off + 1)) HY.out)
      have HX2 := Lib.hid (row_setCell_other (i := 3) (b' := bx) (.int .i64 (s.off + 1)) (row_setCell_other (i := 1) (b' := bx) (.slice ao6 q c6) Y2 (by omega)) (by omega))
      have HB7 := Lib.hid ((HB6.setCell (p := ⟨bx, 1, none⟩) hwb (.slice ao6 q c6)).setCell (p := ⟨bx, 3, none⟩) hwb (.int .i64 (s.off + 1)))
      have HFIN : Hid (∀ W, Sl W 2 (.slice ao6 q c6) q (pc Q) → HvV W (.agg #[.int .i64 s.k, .slice ao6 q c6, .int .i64 (s.n + 1), .int .i64 (s.off + 1)]) (tallyF s key)) := Lib.hid (fun W h => by
        rw [HTL.out]
        exact ⟨_, rfl, Q, hQ1, hQ2, hQ3, by dsimp only; rw [hq]; exact h⟩)
      clear d0 d1 d2 d3 f0 f1 f2 f3 X1 X2 hown6 HB6 hb6
      obtain ⟨⟨d0, d1, d2, d3⟩, ⟨f0, f1, f2, f3⟩⟩ := bx4 Y1
      obtain ⟨⟨y0, y1, y2, y3⟩, ⟨z0, z1, z2, z3⟩⟩ := bx4 HY.out
      clear Y1 Y2
      go_upto_region 15 with (fail)
      obtain ⟨w7, hw7⟩ : ∃ w7, w7 = (w6.setCell ⟨bx, 1, none⟩ (.slice ao6 q c6)).setCell ⟨bx, 3, none⟩ (.int .i64 (s.off + 1)) := ⟨_, rfl⟩
      have X1 : w7.heap[bx]? = some (.cells #[.int .i64 s.k, .slice ao6 q c6, .int .i64 (s.n + 1), .int .i64 (s.off + 1)] 86 (0, 0)) := by rw [hw7]; exact HX1.out
      have X2 : w7.heap[bx + 1]? = some (.cells #[.int .i64 0, .slice none 0 0, .int .i64 0, .int .i64 0] 86 (0, 0)) := by rw [hw7]; exact HX2.out
      have BW : Below w.heap.size w w7 := by rw [hw7]; exact HB7.out
      have OWN : w7.ownsRow w5.heap.size 175 2 (.slice ao6 q c6) q (pc Q) := by rw [hw7]; exact HO7.out
      rw [← hw7]
      clear hw7 HY HX1 HX2 HB7 HO7 d0 d1 d2 d3 f0 f1 f2 f3 y0 y1 y2 y3 z0 z1 z2 z3
      obtain ⟨⟨a0, a1, a2, a3⟩, -⟩ := bx4 X1
      obtain ⟨⟨r0, r1, r2, r3⟩, ⟨h0, h1, h2, h3⟩⟩ := bx4 X2
      have hst := bx4_store (.int .i64 s.k) (.slice ao6 q c6) (.int .i64 (s.n + 1)) (.int .i64 (s.off + 1)) X2
      obtain ⟨⟨s0, s1, s2, s3⟩, -⟩ := bx4 hst
      have HBF := Lib.hid (bx4_below (.int .i64 s.k) (.slice ao6 q c6) (.int .i64 (s.n + 1)) (.int .i64 (s.off + 1)) (show w.heap.size ≤ bx + 1 by omega) BW)
      have HSF := Lib.hid (own_sl (own_stores_other (b := bx + 1) NE [.int .i64 s.k, .slice ao6 q c6, .int .i64 (s.n + 1), .int .i64 (s.off + 1)] _ 0 OWN))
      clear hst X1 X2 BW OWN NE
      go_wp2_with fail
      refine bodyPost_ret (v := .tuple #[.agg #[.int .i64 s.k, .slice ao6 q c6, .int .i64 (s.n + 1), .int .i64 (s.off + 1)], .int .i64 0]) (by simp [results, Try.results50, go_sem, s0, s1, s2, s3]) rfl ?_
      show HvPost _ _ _ _
      rw [HR.out]
      exact ⟨_, rfl, HFIN.out _ HSF.out, HBF.out⟩
end Go.Proofs.Ytcljeedmiobepaa.Hv
