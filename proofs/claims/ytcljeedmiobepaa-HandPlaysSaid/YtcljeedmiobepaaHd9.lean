/-
  A shard of the reference: the walks of NewHand, Cut, Prepare, Write.
-/
import Derived.Test.YtcljeedmiobepaaHd8
namespace Go.Proofs.Ytcljeedmiobepaa.Hd
open Go.RowKit Go.Gh Go.Maps Go.WideShapes Go.Proofs.Ytcljeedmiobepaa.Rk
set_option linter.unusedVariables false
def NRPost (o : ByteArray) (w : World) (e : Ending) (w' : World) : Prop := ∃ mb bh, e = .returned (.pointer (some ⟨mb, 0, none⟩)) ∧ Below w.heap.size w w' ∧ RAt w.heap.size mb bh (newH o) (.map none) (.slice none 0 0) w'
set_option maxRecDepth 100000 in
theorem rnew_any (o : ByteArray) (w : World) : Calls Try.prog 32 #[.string o] w (NRPost o w) := by
  have hmm := @run_makeMap Try.prog
  obtain ⟨w2, hw2⟩ : ∃ w2, w2 = (w.alloc (.map #[] 0)).alloc (.cells #[.int .i64 1, .string o, .string noB, .map (some w.heap.size), .map none, .slice none 0 0] 77) := ⟨_, rfl⟩
  have hbel : Below w.heap.size w w2 := by rw [hw2]; exact ((Below.refl _ _).alloc (Nat.le_refl _) _).alloc (by simp) _
  have hm : Mp w2 w.heap.size [] := (Mp.made w).same (by rw [hw2]; exact Below.heap_alloc _ _ _ (by simp))
  have hbx : w2.heap[w.heap.size + 1]? = some (.cells #[.int .i64 1, .string o, .string noB, .map (some w.heap.size), .map none, .slice none 0 0] 77 (0, 0)) := by
    rw [hw2]
    have := heap_alloc_new (w.alloc (.map #[] 0)) (.cells #[.int .i64 1, .string o, .string noB, .map (some w.heap.size), .map none, .slice none 0 0] 77)
    rwa [World.size_alloc] at this
  have HF : Hid (NRPost o w (.returned (.pointer (some ⟨w.heap.size + 1, 0, none⟩))) w2) := Lib.hid ⟨_, _, rfl, hbel, hbx, hm, Or.inl ⟨tl_noB, rfl, rfl, rfl⟩, ns_nil, fun g hg => by simp [Value.ownBlock] at hg, by omega, Nat.le_refl _, hbel.size⟩
  have HW := Lib.hid hw2
  clear hw2 hbel hm hbx
  go_enter Try.func32, Try.ntmps32
  go_wp2_with fail
  go_ret
  have h1 := HF.out
  rw [HW.out] at h1
  exact h1
set_option maxRecDepth 100000 in
theorem rcut_any (B mb bh : Nat) (s : Hd) (mn vl : Value) (w : World) (h : RAt B mb bh s mn vl w) (he : 0 ≤ s.e ∧ s.e ≤ 1000) : Calls Try.prog 40 #[.pointer (some ⟨mb, 0, none⟩)] w (RPost B mb vl (.int .i64 (cuH s).1) (cuH s).2 w) := by
  have HP := Lib.hid h
  obtain ⟨R, hR⟩ : ∃ R, cuH s = R := ⟨_, rfl⟩
  have HR := Lib.hid hR
  rw [hR]
  have hlf := Sl.shape h.lft
  obtain ⟨m, hm2⟩ : ∃ n, s.left.length = n := ⟨_, rfl⟩
  rw [hm2] at hlf
  obtain ⟨lo, lc, rfl, -, -, -⟩ := hlf
  have HM2 := Lib.hid hm2
  obtain ⟨⟨d0, d1, d2, d3, d4, d5⟩, ⟨f0, f1, f2, f3, f4, f5⟩⟩ := bx6 h.box
  clear h hR hm2
  by_cases ht : s.t.toList = []
  · have HE : Hid (R = (11, s)) := Lib.hid (by rw [← HR.out]; exact if_pos ht)
    have t1 : s.t.toList.isEmpty = true := (emp_iff _).1 ht
    go_enter Try.func40, Try.ntmps40
    go_wp2_with fail
    go_ret
    rw [HE.out]
    exact rp_still HP.out (Below.refl _ _)
  have t1 : s.t.toList.isEmpty = false := by cases h : s.t.toList.isEmpty with | false => rfl | true => exact absurd ((emp_iff _).2 h) ht
  by_cases hl : 0 < m
  · have HE : Hid (R = (13, s)) := Lib.hid (by rw [← HR.out]; unfold cuH; rw [if_neg ht, if_pos (by rw [HM2.out]; exact hl)])
    have hl' : (0 : Int) < (m : Int) := by omega
    go_enter Try.func40, Try.ntmps40
    go_wp2_with fail
    go_ret
    rw [HE.out]
    exact rp_still HP.out (Below.refl _ _)
  have HE : Hid (R = (0, crH ⟨s.e + 1, s.t, s.t, s.next, s.next, s.left⟩)) := Lib.hid (by rw [← HR.out]; unfold cuH; rw [if_neg ht, if_neg (by rw [HM2.out]; exact hl)])
  obtain rfl : m = 0 := by omega
  obtain ⟨bn, rfl, hne, hBn, hmn⟩ := (HP.out.nxt.resolve_left (fun h => ht h.1)).2
  have HMN := Lib.hid hmn
  have hw : IntKind.i64.wrap (s.e + 1) = s.e + 1 := IntWalk.i64_in _ (by omega)
  have hw2 : wrap64 (s.e + 1) = s.e + 1 := IntWalk.wrap64_in _ (by omega)
  clear hl ht hmn
  go_enter Try.func40, Try.ntmps40
  go_upto_region 5 with (fail)
  go_region
  all_goals
    have b1 := row_setCell 1 (.string s.t) HP.out.box
    have b2 := row_setCell 3 (.map (some bn)) b1
    have b3 : (((w.setCell ⟨mb, 1, none⟩ (.string s.t)).setCell ⟨mb, 3, none⟩ (.map (some bn))).setCell ⟨mb, 0, none⟩ (.int .i64 (s.e + 1))).heap[mb]? = some (.cells #[.int .i64 (s.e + 1), .string s.t, .string s.t, .map (some bn), .map (some bn), .slice lo 0 lc] 77 (0, 0)) := by simpa using row_setCell 0 (.int .i64 (s.e + 1)) b2
    have ob := ((((OB.refl B mb w).set HP.out.low.1 1 (.string s.t)).set HP.out.low.1 3 (.map (some bn))).set HP.out.low.1 0 (.int .i64 (s.e + 1))).drew
    obtain ⟨W, hW⟩ : ∃ W, W = (((w.setCell ⟨mb, 1, none⟩ (.string s.t)).setCell ⟨mb, 3, none⟩ (.map (some bn))).setCell ⟨mb, 0, none⟩ (.int .i64 (s.e + 1))).drew := ⟨_, rfl⟩
    have b3 : W.heap[mb]? = some (.cells #[.int .i64 (s.e + 1), .string s.t, .string s.t, .map (some bn), .map (some bn), .slice lo 0 lc] 77 (0, 0)) := by rw [hW]; exact b3
    rw [← hW] at ob ⊢
    have c1 := row_setCell 2 (.string noB) b3
    have c2 := row_setCell 4 (.map none) c1
    have c3 : (((W.setCell ⟨mb, 2, none⟩ (.string noB)).setCell ⟨mb, 4, none⟩ (.map none)).setCell ⟨mb, 5, none⟩ (.slice none 0 0)).heap[mb]? = some (.cells #[.int .i64 (s.e + 1), .string s.t, .string noB, .map (some bn), .map none, .slice none 0 0] 77 (0, 0)) := by simpa using row_setCell 5 (.slice none 0 0) c2
    have oc := ((ob.set HP.out.low.1 2 (.string noB)).set HP.out.low.1 4 (.map none)).set HP.out.low.1 5 (.slice none 0 0)
    have HF := Lib.hid (HP.out.rebox (s' := crH ⟨s.e + 1, s.t, s.t, s.next, s.next, s.left⟩) oc c3 HMN.out (Or.inl ⟨tl_noB, rfl, rfl, rfl⟩) ns_nil (fun g hg => by simp [Value.ownBlock] at hg) hBn (fun g hg => by simp [Value.ownBlock] at hg))
    have HB3 := Lib.hid b3
    clear b1 b2 b3 ob hW c1 c2 c3 oc d0 d1 d2 d3 d4 d5 f0 f1 f2 f3 f4 f5
    go_wp2_with fail
    refine (rcrash0_any mb _ _ _ _ _ _ _ _ HB3.out).mono ?_
    rintro e w2 ⟨rfl, hw2'⟩
    have HF2 : Hid (RAt B mb bn (crH ⟨s.e + 1, s.t, s.t, s.next, s.next, s.left⟩) (.map none) (.slice none 0 0) w2 ∧ Gt B (.slice lo 0 lc) (.slice none 0 0) w w2) := Lib.hid (by rw [hw2']; exact HF.out)
    clear hw2' HF
    go_wp2_with fail
    go_ret
    rw [HE.out]
    exact ⟨rfl, _, _, _, HF2.out.1, HF2.out.2⟩
set_option maxHeartbeats 1000000 in
set_option maxRecDepth 100000 in
theorem rprep_any (B mb bh : Nat) (s : Hd) (to' : ByteArray) (mn vl : Value) (w : World) (h : RAt B mb bh s mn vl w) (hr : Ris s.has) (hn : s.has.length ≤ 1000) : Calls Try.prog 36 #[.pointer (some ⟨mb, 0, none⟩), .string to'] w (RPost B mb vl (.int .i64 (prH s to').1) (prH s to').2 w) := by
  have hmm := @run_makeMap Try.prog
  have HP := Lib.hid h
  obtain ⟨R, hR⟩ : ∃ R, prH s to' = R := ⟨_, rfl⟩
  have HR := Lib.hid hR
  have HRS := Lib.hid hr
  have HN := Lib.hid hn
  rw [hR]
  obtain ⟨⟨d0, d1, d2, d3, d4, d5⟩, -⟩ := bx6 h.box
  clear h hR hr hn
  have hsz : to'.toList = [] ↔ to'.size = 0 := by
    rw [ByteArray.toList_eq]
    constructor
    · intro h
      have : to'.data.size = 0 := by rw [← Array.length_toList, h]; rfl
      exact this
    · intro h
      have : to'.data.size = 0 := h
      exact List.length_eq_zero_iff.1 (by rw [Array.length_toList]; exact this)
  have HSZ := Lib.hid hsz
  clear hsz
  by_cases h1 : to'.size < 1
  · have HE : Hid (R = (4, s)) := Lib.hid (by rw [← HR.out]; exact if_pos (Or.inl (HSZ.out.2 (by omega))))
    have h1' : (to'.size : Int) < 1 := by omega
    go_enter Try.func36, Try.ntmps36
    go_wp2_with fail
    go_ret
    rw [HE.out]
    exact rp_still HP.out (Below.refl _ _)
  have h1' : ¬ (to'.size : Int) < 1 := by omega
  by_cases h2 : 20 < to'.size
  · have HE : Hid (R = (4, s)) := Lib.hid (by rw [← HR.out]; exact if_pos (Or.inr h2))
    have h2' : (20 : Int) < to'.size := by omega
    clear h1 h2
    go_enter Try.func36, Try.ntmps36
    go_wp2_with fail
    go_ret
    rw [HE.out]
    exact rp_still HP.out (Below.refl _ _)
  have h2' : ¬ (20 : Int) < to'.size := by omega
  have HG : Hid (¬ (to'.toList = [] ∨ 20 < to'.size)) := Lib.hid (by
    rintro (h3 | h3)
    · have := HSZ.out.1 h3
      omega
    · exact h2 h3)
  clear h1 h2
  by_cases ht : s.t.toList = []
  case neg =>
    have HE : Hid (R = (11, s)) := Lib.hid (by rw [← HR.out]; unfold prH; rw [if_neg HG.out, if_pos ht])
    have t1 : s.t.toList.isEmpty = false := by cases h : s.t.toList.isEmpty with | false => rfl | true => exact absurd ((emp_iff _).2 h) ht
    go_enter Try.func36, Try.ntmps36
    go_wp2_with fail
    go_ret
    rw [HE.out]
    exact rp_still HP.out (Below.refl _ _)
  have t1 : s.t.toList.isEmpty = true := (emp_iff _).1 ht
  by_cases ho' : to'.toList = s.o.toList
  · have HE : Hid (R = (8, s)) := Lib.hid (by rw [← HR.out]; unfold prH; rw [if_neg HG.out, if_neg (fun h => h ht), if_pos ho'])
    have t2 : (to'.toList == s.o.toList) = true := by rw [ho']; simp
    go_enter Try.func36, Try.ntmps36
    go_wp2_with fail
    go_ret
    rw [HE.out]
    exact rp_still HP.out (Below.refl _ _)
  have HE : Hid (R = (0, ⟨s.e, s.o, to', s.has, [], s.has⟩)) := Lib.hid (by rw [← HR.out]; unfold prH; rw [if_neg HG.out, if_neg (fun h => h ht), if_neg ho'])
  have t2 : (to'.toList == s.o.toList) = false := beq_eq_false_iff_ne.2 ho'
  have HNT : Hid (¬ to'.toList = []) := Lib.hid (fun h => HG.out (Or.inl h))
  obtain ⟨wA, hwA⟩ : ∃ wA, wA = w.alloc (.map #[] 0) := ⟨_, rfl⟩
  have hbA : Below w.heap.size w wA := by rw [hwA]; exact (Below.refl _ _).alloc (Nat.le_refl _) _
  have hmA : Mp wA w.heap.size [] := by rw [hwA]; exact Mp.made w
  have HPA := Lib.hid (HP.out.below hbA)
  have HMA := Lib.hid hmA
  have HBA := Lib.hid hbA
  have HWA := Lib.hid hwA
  clear ho' ht hwA hbA hmA d0 d1 d2 d3 d4 d5
  obtain ⟨⟨d0, d1, d2, d3, d4, d5⟩, -⟩ := bx6 HP.out.box
  obtain ⟨bz, hbz⟩ : ∃ bz, w.heap.size = bz := ⟨_, rfl⟩
  obtain ⟨⟨x0, x1, x2, x3, x4, x5⟩, -⟩ := bx6 HPA.out.box
  go_enter Try.func36, Try.ntmps36
  rw [HWA.out] at x0 x1 x2 x3 x4 x5
  go_wp2_with fail
  rw [← HWA.out]
  refine (inorder_any bh s.has _ HPA.out.has HRS.out HN.out).mono ?_
  rintro e w2 ⟨v2, rfl, hown2, hb2⟩
  have hp2 := HPA.out.below hb2
  have hns2 : Ns w2 v2 s.has := own_sl hown2
  have hr2 := fun g hg => row_at (g := g) hown2 hg
  have hlt2 := fun g hg => hown2.lt g hg
  have hmz : Mp w2 bz [] := by
    rw [← hbz]
    obtain ⟨es, clock, h7⟩ := HMA.out.at
    exact HMA.out.same (hb2.block _ (Array.getElem?_eq_some_iff.1 h7).1)
  have hne : bz ≠ bh := by
    obtain ⟨es, clock, h7⟩ := HP.out.has.at
    have := (Array.getElem?_eq_some_iff.1 h7).1
    omega
  have hBz : B ≤ bz := by have := HP.out.low.2.2; omega
  have hsz2 : w.heap.size ≤ wA.heap.size := HBA.out.size
  clear d0 d1 d2 d3 d4 d5 x0 x1 x2 x3 x4 x5
  obtain ⟨⟨x0, x1, x2, x3, x4, x5⟩, ⟨y0, y1, y2, y3, y4, y5⟩⟩ := bx6 hp2.box
  obtain ⟨q, hq⟩ : ∃ q, s.has.length = q := ⟨_, rfl⟩
  have hsh := own_shape hown2
  rw [hq] at hsh
  obtain ⟨o2, c2, rfl, -, -, -⟩ := hsh
  have b1 := row_setCell 2 (.string to') hp2.box
  have b2 := row_setCell 4 (.map (some bz)) b1
  have b3 : (((w2.setCell ⟨mb, 2, none⟩ (.string to')).setCell ⟨mb, 4, none⟩ (.map (some bz))).setCell ⟨mb, 5, none⟩ (.slice o2 q c2)).heap[mb]? = some (.cells #[.int .i64 s.e, .string s.o, .string to', .map (some bh), .map (some bz), .slice o2 q c2] 77 (0, 0)) := by simpa using row_setCell 5 (.slice o2 q c2) b2
  have ob := (((OB.refl B mb w2).set hp2.low.1 2 (.string to')).set hp2.low.1 4 (.map (some bz))).set hp2.low.1 5 (.slice o2 q c2)
  obtain ⟨hf1, hf2⟩ := hp2.rebox0 (s' := ⟨s.e, s.o, to', s.has, [], s.has⟩) ob b3 hp2.has (Or.inr ⟨HNT.out, bz, rfl, hne, hBz, hmz⟩) hns2 hr2 hp2.low.2.1
  have hg2 := (Gt.of_below (v := vl) (HBA.out.trans (hb2.mono HBA.out.size)) HP.out.low.2.2).trans hf2
  have HF := Lib.hid (And.intro hf1 (⟨hg2.size, hg2.keep, fun g hg => Or.inr (by have := (hlt2 g hg).1; omega), hg2.bel⟩ : Gt B vl (.slice o2 q c2) w _))
  clear hp2 hns2 hr2 hlt2 hown2 hb2 b1 b2 b3 ob hf1 hf2 hg2 hmz hq
  go_wp2_with fail
  go_ret
  rw [HE.out]
  exact ⟨rfl, _, _, _, HF.out.1, HF.out.2⟩
end Go.Proofs.Ytcljeedmiobepaa.Hd
