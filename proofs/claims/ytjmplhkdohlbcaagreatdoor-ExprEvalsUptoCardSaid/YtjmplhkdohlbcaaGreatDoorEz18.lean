/-
  Labels: the walks of SameLabels and SameMatches (PRINTED by mklb10.py).
-/
import Derived.Test.YtjmplhkdohlbcaaGreatDoorEz7
import Derived.Test.YtjmplhkdohlbcaaGreatDoorEz17
import Derived.Deep.QuietTactic
import Derived.BigQuiet
import Derived.IntWalk
namespace Go.Gh
instance decLb : DecidableEq Lb := fun a b => if h : a.nm = b.nm ∧ a.vl = b.vl then isTrue (by cases a; cases b; simp_all) else isFalse (fun e => h (by rw [e]; exact ⟨rfl, rfl⟩))
instance decMt : DecidableEq Mt := fun a b => if h : a.kd = b.kd ∧ a.nm = b.nm ∧ a.vl = b.vl then isTrue (by cases a; cases b; simp_all) else isFalse (fun e => h (by rw [e]; exact ⟨rfl, rfl, rfl⟩))
theorem take_same {α : Type} {L M : List α} {k : Nat} {x : α} (h : L.take k = M.take k) (hx : L[k]? = some x) (hy : M[k]? = some x) : L.take (k + 1) = M.take (k + 1) := by
  rw [List.take_add_one, List.take_add_one, h, hx, hy]
theorem get_ne {α : Type} {L M : List α} {k : Nat} {x y : α} (hx : L[k]? = some x) (hy : M[k]? = some y) (h : ¬ x = y) : ¬ L = M := by
  intro e
  rw [e, hy] at hx
  injection hx with hx
  exact h hx.symm
end Go.Gh
namespace Go.Proofs.YtjmplhkdohlbcaaGreatDoor.Lab
open Go.RowKit Go.Gh
set_option linter.unusedVariables false
set_option linter.unusedSimpArgs false
theorem mixLb : mixed Tryz.prog 75 2 = true := by kernel_rfl
theorem mixMt : mixed Tryz.prog 73 3 = true := by kernel_rfl
theorem fdLb0 : fieldDesc Tryz.prog 75 0 = some .string := by kernel_rfl
theorem fdLb1 : fieldDesc Tryz.prog 75 1 = some .string := by kernel_rfl
theorem fdMt0 : fieldDesc Tryz.prog 73 0 = some (.int .i64) := by kernel_rfl
theorem fdMt1 : fieldDesc Tryz.prog 73 1 = some .string := by kernel_rfl
theorem fdMt2 : fieldDesc Tryz.prog 73 2 = some .string := by kernel_rfl
theorem row_ok_lb (a b : ByteArray) : rowOk Tryz.prog 75 [.string a, .string b] := by
  intro i v hv
  match i, hv with
  | 0, hv => (simp only [List.getElem?_cons_zero, List.getElem?_cons_succ, Option.some.injEq] at hv); subst hv; rw [fdLb0]; exact trivial
  | 1, hv => (simp only [List.getElem?_cons_zero, List.getElem?_cons_succ, Option.some.injEq] at hv); subst hv; rw [fdLb1]; exact trivial
theorem row_ok_mt (k : Int) (a b : ByteArray) : rowOk Tryz.prog 73 [.int .i64 k, .string a, .string b] := by
  intro i v hv
  match i, hv with
  | 0, hv => (simp only [List.getElem?_cons_zero, List.getElem?_cons_succ, Option.some.injEq] at hv); subst hv; rw [fdMt0]; exact rfl
  | 1, hv => (simp only [List.getElem?_cons_zero, List.getElem?_cons_succ, Option.some.injEq] at hv); subst hv; rw [fdMt1]; exact trivial
  | 2, hv => (simp only [List.getElem?_cons_zero, List.getElem?_cons_succ, Option.some.injEq] at hv); subst hv; rw [fdMt2]; exact trivial
theorem eq_lb (x y : Lb) : eqCells [.string (mkS x.nm), .string (mkS x.vl)] [.string (mkS y.nm), .string (mkS y.vl)] = decide (x = y) := by
  show (((mkS x.nm).toList == (mkS y.nm).toList) && (((mkS x.vl).toList == (mkS y.vl).toList) && true)) = _
  rw [mkS_list, mkS_list, mkS_list, mkS_list, Bool.and_true, Bool.eq_iff_iff]
  cases x; cases y
  simp
theorem eq_mt (x y : Mt) : eqCells [.int .i64 x.kd, .string (mkS x.nm), .string (mkS x.vl)] [.int .i64 y.kd, .string (mkS y.nm), .string (mkS y.vl)] = decide (x = y) := by
  show ((x.kd == y.kd) && (((mkS x.nm).toList == (mkS y.nm).toList) && (((mkS x.vl).toList == (mkS y.vl).toList) && true))) = _
  rw [mkS_list, mkS_list, mkS_list, mkS_list, Bool.and_true, Bool.eq_iff_iff]
  cases x; cases y
  simp
theorem ret_bool' {a b : Bool} (h : a = b) : Ending.returned (.bool a) = Ending.returned (.bool b) := by rw [h]
set_option maxHeartbeats 4000000 in
set_option maxRecDepth 100000 in
theorem samelb_any (v u : Value) (L M : List Lb) (w : World) (hs : Sp LbR 2 w v L) (ht : Sp LbR 2 w u M) : Calls Tryz.prog 14 #[v, u] w fun e w' => e = .returned (.bool (decide (L = M))) ∧ Below w.heap.size w w' := by
  obtain ⟨n, hn⟩ : ∃ n, L.length = n := ⟨_, rfl⟩
  obtain ⟨o, ho⟩ : ∃ n, M.length = n := ⟨_, rfl⟩
  obtain ⟨ao, c, rfl, hnc, hc⟩ := hs.shapeN hn
  obtain ⟨bo, d, rfl, hod, hd⟩ := ht.shapeN ho
  have HL := Lib.hid hn
  have HM := Lib.hid ho
  have HS := Lib.hid hs
  have HU := Lib.hid ht
  clear hs ht
  by_cases hno : n = o
  · subst hno
    clear hn ho
    go_enter Tryz.func14, Tryz.ntmps14
    go_wp2_with fail
    go_loopw [4, 5, 13] (fun r _ i wr => ∃ k : Nat, k ≤ n ∧ i = .int .i64 k ∧ r = .bool false ∧ Below w.heap.size w wr ∧ Hid (L.take k = M.take k)) (fun _ _ i _ => n - (intOf i).toNat)
    case atStart => exact ⟨0, by omega, rfl, rfl, Below.refl _ _, Lib.hid rfl⟩
    case round =>
      obtain ⟨k, hk, rfl, rfl, hbr, HE⟩ := hrel
      by_cases hlt : k < n
      · obtain ⟨x, hx⟩ : ∃ x, L[k]? = some x := ⟨_, List.getElem?_eq_getElem (by rw [HL.out]; exact hlt)⟩
        obtain ⟨y, hy⟩ : ∃ y, M[k]? = some y := ⟨_, List.getElem?_eq_getElem (by rw [HM.out]; exact hlt)⟩
        obtain ⟨b, off, cs, rfl, ⟨rfl, hl1, hl2⟩, _, hck⟩ := (HS.out.below lbR_mono hbr).get hx
        obtain ⟨b', off', cs', rfl, ⟨rfl, hm1, hm2⟩, _, hcj⟩ := (HU.out.below lbR_mono hbr).get hy
        have c0 := hck 0 _ rfl
        have e0 := hcj 0 _ rfl
        have c1 := hck 1 _ rfl
        have e1 := hcj 1 _ rfl
        rw [Nat.add_zero] at c0 e0
        have hq := eq_lb x y
        obtain ⟨nmx, hnmx⟩ : ∃ z, z = mkS x.nm := ⟨_, rfl⟩
        obtain ⟨vlx, hvlx⟩ : ∃ z, z = mkS x.vl := ⟨_, rfl⟩
        obtain ⟨nmy, hnmy⟩ : ∃ z, z = mkS y.nm := ⟨_, rfl⟩
        obtain ⟨vly, hvly⟩ : ∃ z, z = mkS y.vl := ⟨_, rfl⟩
        rw [← hnmx, ← hvlx, ← hnmy, ← hvly] at hq
        rw [← hnmx] at c0
        rw [← hvlx] at c1
        rw [← hnmy] at e0
        rw [← hvly] at e1
        have HQ := Lib.hid hq
        have HX := Lib.hid hx
        have HY := Lib.hid hy
        clear hnmx hvlx hnmy hvly hck hcj hx hy hq
        by_cases he : x = y
        · have HN : Hid (L.take (k + 1) = M.take (k + 1)) := Lib.hid (take_same HE.out HX.out (by rw [he]; exact HY.out))
          go_wp2_with fail
          refine wp_region_quiet_lit (by kernel_rfl) (by kernel_rfl) ?_
          repeat (go_big_quiet_step (fail))
          go_big_quiet_want
          refine quiet_of_run (.bool false) (fun w' => (exec_neq_mix (l := [.string nmx, .string vlx]) (m := [.string nmy, .string vly]) rfl mixLb rfl rfl (row_ok_lb _ _) (row_ok_lb _ _) rfl rfl).trans (by rw [HQ.out, decide_eq_true he]; rfl)) ?_
          go_big_quiet_on
          refine wpQuiet_nil ?_
          rintro _ ⟨nq, rfl⟩
          go_wp2
          go_roundw
          case rel => exact ⟨k + 1, by omega, by go_num, rfl, below_drewN hbr _, HN⟩
          case measure => simp [intOf]; omega
        · have HN : Hid (decide (L = M) = false) := Lib.hid (decide_eq_false (get_ne HX.out HY.out he))
          go_wp2_with fail
          refine wp_region_quiet_lit (by kernel_rfl) (by kernel_rfl) ?_
          repeat (go_big_quiet_step (fail))
          go_big_quiet_want
          refine quiet_of_run (.bool true) (fun w' => (exec_neq_mix (l := [.string nmx, .string vlx]) (m := [.string nmy, .string vly]) rfl mixLb rfl rfl (row_ok_lb _ _) (row_ok_lb _ _) rfl rfl).trans (by rw [HQ.out, decide_eq_false he]; rfl)) ?_
          go_big_quiet_on
          refine wpQuiet_nil ?_
          rintro _ ⟨nq, rfl⟩
          go_wp2
          go_ret
          exact ⟨ret_bool' HN.out.symm, below_drewN hbr _⟩
      · obtain rfl : k = n := by omega
        have HN : Hid (decide (L = M) = true) := Lib.hid (decide_eq_true (by
          have h := HE.out
          rwa [List.take_of_length_le (by rw [HL.out]; exact Nat.le_refl _), List.take_of_length_le (by rw [HM.out]; exact Nat.le_refl _)] at h))
        go_wp2_with fail
        go_ret
        exact ⟨ret_bool' HN.out.symm, hbr⟩
  · have HN : Hid (decide (L = M) = false) := Lib.hid (decide_eq_false (fun h => hno (by rw [← hn, ← ho, h])))
    have hne : ((n : Int) != (o : Int)) = true := by rw [bne_iff_ne]; omega
    clear hn ho
    go_enter Tryz.func14, Tryz.ntmps14
    go_wp2_with fail
    go_ret
    exact ⟨ret_bool' HN.out.symm, Below.refl _ _⟩
set_option maxHeartbeats 4000000 in
set_option maxRecDepth 100000 in
theorem samemt_any (v u : Value) (L M : List Mt) (w : World) (hs : Sp MtR 3 w v L) (ht : Sp MtR 3 w u M) : Calls Tryz.prog 25 #[v, u] w fun e w' => e = .returned (.bool (decide (L = M))) ∧ Below w.heap.size w w' := by
  obtain ⟨n, hn⟩ : ∃ n, L.length = n := ⟨_, rfl⟩
  obtain ⟨o, ho⟩ : ∃ n, M.length = n := ⟨_, rfl⟩
  obtain ⟨ao, c, rfl, hnc, hc⟩ := hs.shapeN hn
  obtain ⟨bo, d, rfl, hod, hd⟩ := ht.shapeN ho
  have HL := Lib.hid hn
  have HM := Lib.hid ho
  have HS := Lib.hid hs
  have HU := Lib.hid ht
  clear hs ht
  by_cases hno : n = o
  · subst hno
    clear hn ho
    go_enter Tryz.func25, Tryz.ntmps25
    go_wp2_with fail
    go_loopw [4, 5, 13] (fun r _ i wr => ∃ k : Nat, k ≤ n ∧ i = .int .i64 k ∧ r = .bool false ∧ Below w.heap.size w wr ∧ Hid (L.take k = M.take k)) (fun _ _ i _ => n - (intOf i).toNat)
    case atStart => exact ⟨0, by omega, rfl, rfl, Below.refl _ _, Lib.hid rfl⟩
    case round =>
      obtain ⟨k, hk, rfl, rfl, hbr, HE⟩ := hrel
      by_cases hlt : k < n
      · obtain ⟨x, hx⟩ : ∃ x, L[k]? = some x := ⟨_, List.getElem?_eq_getElem (by rw [HL.out]; exact hlt)⟩
        obtain ⟨y, hy⟩ : ∃ y, M[k]? = some y := ⟨_, List.getElem?_eq_getElem (by rw [HM.out]; exact hlt)⟩
        obtain ⟨b, off, cs, rfl, ⟨rfl, hl1, hl2, hl3, hl4⟩, _, hck⟩ := (HS.out.below mtR_mono hbr).get hx
        obtain ⟨b', off', cs', rfl, ⟨rfl, hm1, hm2, hm3, hm4⟩, _, hcj⟩ := (HU.out.below mtR_mono hbr).get hy
        have c0 := hck 0 _ rfl
        have e0 := hcj 0 _ rfl
        have c1 := hck 1 _ rfl
        have e1 := hcj 1 _ rfl
        have c2 := hck 2 _ rfl
        have e2 := hcj 2 _ rfl
        rw [Nat.add_zero] at c0 e0
        have hq := eq_mt x y
        obtain ⟨kdx, hkdx⟩ : ∃ z, z = x.kd := ⟨_, rfl⟩
        obtain ⟨nmx, hnmx⟩ : ∃ z, z = mkS x.nm := ⟨_, rfl⟩
        obtain ⟨vlx, hvlx⟩ : ∃ z, z = mkS x.vl := ⟨_, rfl⟩
        obtain ⟨kdy, hkdy⟩ : ∃ z, z = y.kd := ⟨_, rfl⟩
        obtain ⟨nmy, hnmy⟩ : ∃ z, z = mkS y.nm := ⟨_, rfl⟩
        obtain ⟨vly, hvly⟩ : ∃ z, z = mkS y.vl := ⟨_, rfl⟩
        rw [← hkdx, ← hnmx, ← hvlx, ← hkdy, ← hnmy, ← hvly] at hq
        rw [← hkdx] at c0
        rw [← hnmx] at c1
        rw [← hvlx] at c2
        rw [← hkdy] at e0
        rw [← hnmy] at e1
        rw [← hvly] at e2
        have HQ := Lib.hid hq
        have HX := Lib.hid hx
        have HY := Lib.hid hy
        clear hkdx hnmx hvlx hkdy hnmy hvly hck hcj hx hy hq
        by_cases he : x = y
        · have HN : Hid (L.take (k + 1) = M.take (k + 1)) := Lib.hid (take_same HE.out HX.out (by rw [he]; exact HY.out))
          go_wp2_with fail
          refine wp_region_quiet_lit (by kernel_rfl) (by kernel_rfl) ?_
          repeat (go_big_quiet_step (fail))
          go_big_quiet_want
          refine quiet_of_run (.bool false) (fun w' => (exec_neq_mix (l := [.int .i64 kdx, .string nmx, .string vlx]) (m := [.int .i64 kdy, .string nmy, .string vly]) rfl mixMt rfl rfl (row_ok_mt _ _ _) (row_ok_mt _ _ _) rfl rfl).trans (by rw [HQ.out, decide_eq_true he]; rfl)) ?_
          go_big_quiet_on
          refine wpQuiet_nil ?_
          rintro _ ⟨nq, rfl⟩
          go_wp2
          go_roundw
          case rel => exact ⟨k + 1, by omega, by go_num, rfl, below_drewN hbr _, HN⟩
          case measure => simp [intOf]; omega
        · have HN : Hid (decide (L = M) = false) := Lib.hid (decide_eq_false (get_ne HX.out HY.out he))
          go_wp2_with fail
          refine wp_region_quiet_lit (by kernel_rfl) (by kernel_rfl) ?_
          repeat (go_big_quiet_step (fail))
          go_big_quiet_want
          refine quiet_of_run (.bool true) (fun w' => (exec_neq_mix (l := [.int .i64 kdx, .string nmx, .string vlx]) (m := [.int .i64 kdy, .string nmy, .string vly]) rfl mixMt rfl rfl (row_ok_mt _ _ _) (row_ok_mt _ _ _) rfl rfl).trans (by rw [HQ.out, decide_eq_false he]; rfl)) ?_
          go_big_quiet_on
          refine wpQuiet_nil ?_
          rintro _ ⟨nq, rfl⟩
          go_wp2
          go_ret
          exact ⟨ret_bool' HN.out.symm, below_drewN hbr _⟩
      · obtain rfl : k = n := by omega
        have HN : Hid (decide (L = M) = true) := Lib.hid (decide_eq_true (by
          have h := HE.out
          rwa [List.take_of_length_le (by rw [HL.out]; exact Nat.le_refl _), List.take_of_length_le (by rw [HM.out]; exact Nat.le_refl _)] at h))
        go_wp2_with fail
        go_ret
        exact ⟨ret_bool' HN.out.symm, hbr⟩
  · have HN : Hid (decide (L = M) = false) := Lib.hid (decide_eq_false (fun h => hno (by rw [← hn, ← ho, h])))
    have hne : ((n : Int) != (o : Int)) = true := by rw [bne_iff_ne]; omega
    clear hn ho
    go_enter Tryz.func25, Tryz.ntmps25
    go_wp2_with fail
    go_ret
    exact ⟨ret_bool' HN.out.symm, Below.refl _ _⟩
end Go.Proofs.YtjmplhkdohlbcaaGreatDoor.Lab
/-
  The document's small walks: alone, SameRows, SeriesFault, the law's parts.
-/
namespace Go.Proofs.YtjmplhkdohlbcaaGreatDoor.Evl
open Go.RowKit Go.Gh Go.Gh.Clr Go.WideShapes Go.Proofs.YtjmplhkdohlbcaaGreatDoor.Lab Go.Proofs.YtjmplhkdohlbcaaGreatDoor.Exp
set_option linter.unusedVariables false
set_option linter.unusedSimpArgs false
set_option maxHeartbeats 2000000 in
set_option maxRecDepth 100000 in
theorem alone_any (v : Value) (S : List Rw) (w : World) (hs : Sp RdR 2 w v S) : Calls Tryz.prog 62 #[v] w fun e w' => e = .returned (.bool (aloneS S)) ∧ w = w' := by
  obtain ⟨n, hn⟩ : ∃ n, S.length = n := ⟨_, rfl⟩
  obtain ⟨ao, c, rfl, hnc, hc⟩ := hs.shapeN hn
  by_cases h1 : n = 1
  · subst h1
    obtain ⟨r, rfl⟩ := List.length_eq_one_iff.1 hn
    obtain ⟨b, off, cs, rfl, hr, hl, hat⟩ := hs.headN
    obtain ⟨t, rfl, ht⟩ := hr
    obtain ⟨m, hm⟩ : ∃ m, r.1.length = m := ⟨_, rfl⟩
    obtain ⟨at2, ct2, rfl, -, -⟩ := ht.shapeN hm
    have f1 := hat 0 _ rfl
    rw [Nat.add_zero] at f1
    have e : aloneS [r] = decide (m = 0) := by show decide (r.1.length = 0) = _; rw [hm]
    rw [e]
    obtain ⟨D, hD⟩ : ∃ D, decide (m = 0) = D := ⟨_, rfl⟩
    have hD2 : (((m : Nat) : Int) == 0) = D := by rw [← hD]; by_cases h : m = 0 <;> simp [h]
    rw [hD]
    clear hs hn hat hm ht hl e hD
    go_enter Tryz.func62, Tryz.ntmps62
    go_wp2
    go_ret
    exact ⟨rfl, rfl⟩
  · have e : aloneS S = false := by
      unfold aloneS
      split
      · exact absurd hn.symm (by simpa using h1)
      · rfl
    rw [e]
    have t1 : (((n : Nat) : Int) == 1) = false := by simp; omega
    clear hs hn e
    go_enter Tryz.func62, Tryz.ntmps62
    go_wp2
    go_ret
    exact ⟨rfl, rfl⟩
set_option maxHeartbeats 8000000 in
set_option maxRecDepth 100000 in
theorem partsL_any (d : Nat) : ∀ (x : Ex) (u0 u1 u2 u3 u4 u5 : Value) (w : World), ExD d w x [u0, u1, u2, u3, u4, u5] → szX x ≤ 1048576 → Calls Tryz.prog 30 #[.agg #[u0, u1, u2, u3, u4, u5]] w fun e w' => e = .returned (.int .i64 (szX x : Nat)) ∧ Below w.heap.size w w' := by
  induction d with
  | zero => intro x u0 u1 u2 u3 u4 u5 w h; exact h.elim
  | succ d ih =>
    intro x u0 u1 u2 u3 u4 u5 w h hz
    obtain ⟨vm, vb, vx, hc, -, -, hx, -⟩ := h
    obtain rfl : u5 = vx := by simp at hc; exact hc.2.2.2.2.2
    obtain ⟨L, hL⟩ : ∃ L, x.xs = L := ⟨_, rfl⟩
    rw [szX_eq, hL] at hz ⊢
    rw [hL] at hx
    obtain ⟨n, hn⟩ : ∃ n, L.length = n := ⟨_, rfl⟩
    obtain ⟨ao, cp, rfl, hnc, hcp⟩ := hx.shapeN hn
    have HN := Lib.hid hn
    have HX := Lib.hid hx
    have IH := Lib.hid ih
    obtain ⟨M, hM⟩ : ∃ M, 1 + szL L = M := ⟨_, rfl⟩
    rw [hM] at hz ⊢
    have HM := Lib.hid hM
    obtain ⟨wa, hwa, hbox, hba, hsa⟩ := box_ex w u0 u1 u2 u3 u4 (.slice ao n cp)
    have HWA := Lib.hid hwa
    have HBA := Lib.hid hba
    clear hc hL hn hx ih hM hwa hba hsa
    go_enter Tryz.func30, Tryz.ntmps30
    go_upto_region 1 with (fail)
    rw [← HWA.out]
    obtain ⟨⟨-, -, -, -, -, d5⟩, -⟩ := bx6 hbox
    obtain ⟨bx, hbx⟩ : ∃ bx, w.heap.size = bx := ⟨_, rfl⟩
    rw [hbx] at d5
    have hbl : bx < wa.heap.size := by rw [← hbx]; exact (Array.getElem?_eq_some_iff.1 hbox).1
    rw [hbx]
    have HB := Lib.hid hbx
    clear hbox hbx
    go_wp2_with fail
    go_loopw [3, 9] (fun s i wr => ∃ k m : Nat, k ≤ n ∧ s = .int .i64 m ∧ i = .int .i64 k ∧ Hid (m = 1 + szL (L.take k)) ∧ Hid (Below w.heap.size w wr)) (fun s i _ => n - (intOf i).toNat)
    case atStart => exact ⟨0, 1, Nat.zero_le _, rfl, rfl, Lib.hid (by rw [List.take_zero, szL_nil]), HBA⟩
    case round =>
      obtain ⟨k, m, hk, rfl, rfl, HK, HBR⟩ := hrel
      have hmM : m ≤ M := by rw [HK.out, ← HM.out]; have := szL_take_le L k; omega
      by_cases hlt : k < n
      case neg =>
        obtain rfl : k = n := by omega
        obtain rfl : m = M := by rw [HK.out, ← HM.out, List.take_of_length_le (Nat.le_of_eq HN.out)]
        go_wp2_with fail
        go_ret
        exact ⟨rfl, HBR.out⟩
      obtain ⟨y, hy⟩ : ∃ y, L[k]? = some y := ⟨_, List.getElem?_eq_getElem (by rw [HN.out]; exact hlt)⟩
      obtain ⟨b, off, cs, rfl, hy2, hl6, hck⟩ := (HX.out.below (exD_mono d) HBR.out).get hy
      obtain ⟨k0, k1, k2, am, lm, cm, ab, lb, cb, ax, lx, cx, rfl⟩ := exD_shape hy2
      have c0 := hck 0 _ rfl
      have c1 := hck 1 _ rfl
      have c2 := hck 2 _ rfl
      have c3 := hck 3 _ rfl
      have c4 := hck 4 _ rfl
      have c5 := hck 5 _ rfl
      rw [Nat.add_zero] at c0
      obtain ⟨q, hq⟩ : ∃ q, szX y = q := ⟨_, rfl⟩
      have hsum : m + q ≤ M := by
        have h1 := szL_take hy
        have h2 := szL_take_le L (k + 1)
        rw [HK.out, ← HM.out]
        omega
      have HNX : Hid (m + q = 1 + szL (L.take (k + 1))) := Lib.hid (by rw [HK.out, szL_take hy]; omega)
      obtain ⟨wb, hwb, -, hbb, -⟩ := box_ex wr (.int .i64 k0) (.int .i64 k1) (.int .i64 k2) (.slice am lm cm) (.slice ab lb cb) (.slice ax lx cx)
      have HBB := Lib.hid (HBR.out.trans (hbb.mono HBR.out.size))
      have HC := Lib.hid (IH.out y (.int .i64 k0) (.int .i64 k1) (.int .i64 k2) (.slice am lm cm) (.slice ab lb cb) (.slice ax lx cx) wb (exD_mono d _ _ _ _ hy2 hbb) (by omega))
      rw [hq] at HC
      rw [hwb] at HC HBB
      clear hck hy2 hl6 hy hq hwb hbb
      go_wp2_with fail
      refine HC.out.mono ?_
      rintro e w2 ⟨rfl, hb2⟩
      have HB2 := Lib.hid (HBB.out.trans (hb2.mono HBB.out.size))
      clear hb2
      go_wp2_with fail
      go_roundw
      case rel => exact ⟨k + 1, m + q, by omega, by go_num, by go_num, HNX, HB2⟩
      case measure => simp [intOf]; omega
set_option maxHeartbeats 8000000 in
set_option maxRecDepth 100000 in
theorem samerows_any (v u : Value) (S : List Rw) (w : World) (hs : Sp RdR 2 w v S) (ht : Sp RdR 2 w u S) (hl : S.length ≤ 1000000) : Calls Tryz.prog 31 #[v, u] w fun e w' => e = .returned (.bool true) ∧ Below w.heap.size w w' := by
  obtain ⟨n, hn⟩ : ∃ n, S.length = n := ⟨_, rfl⟩
  obtain ⟨ao, c, rfl, hnc, hc⟩ := hs.shapeN hn
  obtain ⟨bo, d, rfl, hnd, hd⟩ := ht.shapeN hn
  rw [hn] at hl
  have HS := Lib.hid hs
  have HT := Lib.hid ht
  have HN := Lib.hid hn
  clear hs ht hn
  go_enter Tryz.func31, Tryz.ntmps31
  go_wp2_with fail
  go_loopw [5, 13] (fun _ i wr => ∃ k : Nat, k ≤ n ∧ i = .int .i64 k ∧ Hid (Below w.heap.size w wr)) (fun _ i _ => n - (intOf i).toNat)
  case atStart => exact ⟨0, Nat.zero_le _, rfl, Lib.hid (Below.refl _ _)⟩
  case round =>
  obtain ⟨k, hk, rfl, HB⟩ := hrel
  by_cases hlt : k < n
  case neg =>
    obtain rfl : k = n := by omega
    go_wp2_with fail
    go_ret
    exact ⟨rfl, HB.out⟩
  obtain ⟨r, hr⟩ : ∃ r, S[k]? = some r := ⟨_, List.getElem?_eq_getElem (by rw [HN.out]; exact hlt)⟩
  obtain ⟨L, V⟩ := r
  obtain ⟨b1, o1, cs1, e1, ⟨t1, rfl, ht1⟩, -, h1⟩ := (HS.out.below rdR_mono HB.out).get hr
  obtain ⟨b2, o2, cs2, e2, ⟨t2, rfl, ht2⟩, -, h2⟩ := (HT.out.below rdR_mono HB.out).get hr
  obtain rfl := e1
  obtain rfl := e2
  obtain ⟨ta, tc, rfl, -, -⟩ := ht1.shape
  obtain ⟨ua, uc, rfl, -, -⟩ := ht2.shape
  have x0 := h1 0 _ rfl
  have x1 := h1 1 _ rfl
  have y0 := h2 0 _ rfl
  have y1 := h2 1 _ rfl
  rw [Nat.add_zero] at x0 y0
  simp only at ht1 ht2
  have hk0 : (0 : Int) ≤ (k : Int) := by omega
  have hk1 : (k : Int) < (n : Int) := by omega
  have HSM := Lib.hid (fun W (hb : Below wr.heap.size wr W) => samelb_any _ _ L L W (ht1.below lbR_mono hb) (ht2.below lbR_mono hb))
  have HC : Hid (∀ W, Below wr.heap.size wr W → W.cell? ⟨b1, o1 + k * 2, none⟩ = some (.slice ta L.length tc) ∧ W.cell? ⟨b1, o1 + k * 2 + 1, none⟩ = some (.int .i64 V) ∧ W.cell? ⟨b2, o2 + k * 2, none⟩ = some (.slice ua L.length uc) ∧ W.cell? ⟨b2, o2 + k * 2 + 1, none⟩ = some (.int .i64 V)) := Lib.hid (fun W hb =>
    ⟨(hb.cell (p := ⟨_, _, none⟩) (cell_lt x0)).trans x0, (hb.cell (p := ⟨_, _, none⟩) (cell_lt x1)).trans x1, (hb.cell (p := ⟨_, _, none⟩) (cell_lt y0)).trans y0, (hb.cell (p := ⟨_, _, none⟩) (cell_lt y1)).trans y1⟩)
  have HD0 := Lib.hid (Below.refl wr.heap.size wr).drew
  have q0 := HC.out _ HD0.out
  clear hr h1 h2 ht1 ht2 x0 x1 y0 y1
  go_upto_region 6 with (fail)
  go_region_held3 (fun W => W.cell? ⟨b1, o1 + k * 2, none⟩ = some (.slice ta L.length tc) ∧ W.cell? ⟨b1, o1 + k * 2 + 1, none⟩ = some (.int .i64 V) ∧ W.cell? ⟨b2, o2 + k * 2, none⟩ = some (.slice ua L.length uc) ∧ W.cell? ⟨b2, o2 + k * 2 + 1, none⟩ = some (.int .i64 V)) (first | (with_reducible exact q1) | (with_reducible exact q0) | go_keep) (first
    | (go_at_call 14; refine (HSM.out _ HD0.out).mono ?_; rw [decide_eq_true (rfl : L = L)]; rintro e w2 ⟨rfl, hb2⟩; have hb12 : Below wr.heap.size wr w2 := HD0.out.trans (hb2.mono HD0.out.size); have q1 := HC.out _ hb12; have HB2 := Lib.hid (HB.out.trans (hb12.mono HB.out.size)); clear hb2 hb12))
  all_goals
    clear q0 q1
    go_wp2_with fail
    go_roundw
    case rel => exact ⟨k + 1, by omega, by go_num, HB2⟩
    case measure => simp [intOf]; omega
end Go.Proofs.YtjmplhkdohlbcaaGreatDoor.Evl
/-
  The walk of SeriesFault.
-/
namespace Go.Proofs.YtjmplhkdohlbcaaGreatDoor.Evl
open Go.RowKit Go.Gh Go.Gh.Clr Go.WideShapes Go.Proofs.YtjmplhkdohlbcaaGreatDoor.Lab Go.Proofs.YtjmplhkdohlbcaaGreatDoor.Exp
set_option linter.unusedVariables false
set_option linter.unusedSimpArgs false
def NeS (l : List Srs) : Prop := l.Pairwise fun a b => a.1 ≠ b.1
open Classical in
noncomputable def serF (all : List Srs) : Int := if 200 < all.length then 2 else if goS all ≠ 0 then goS all else if NeS all then 0 else 8
theorem ne_step {l : List Srs} {k : Nat} {s : Srs} (h : NeS (l.take k)) (hs : l[k]? = some s) (hn : ∀ a ∈ l.take k, s.1 ≠ a.1) : NeS (l.take (k + 1)) := by
  unfold NeS at h ⊢
  rw [List.take_add_one, hs, List.pairwise_append]
  refine ⟨h, by simp, fun a ha b hb => ?_⟩
  obtain rfl : b = s := by simpa using hb
  exact fun e => hn a ha e.symm
theorem ne_not {l : List Srs} {i k : Nat} {s t : Srs} (hs : l[i]? = some s) (ht : l[k]? = some t) (hk : k < i) (e : s.1 = t.1) : ¬ NeS l := by
  intro h
  unfold NeS at h
  obtain ⟨hi, rfl⟩ := List.getElem?_eq_some_iff.1 hs
  obtain ⟨hk', rfl⟩ := List.getElem?_eq_some_iff.1 ht
  exact (List.pairwise_iff_getElem.1 h k i hk' hi hk) e.symm
theorem ser_evl {all : List Srs} {now : Int} {x : Ex} (h : exF x = 0) (hs : serF all ≠ 0) : evlF all now x = serF all := by
  unfold evlF serF at *
  by_cases h1 : 200 < all.length
  · rw [if_neg (by rw [h]; decide), if_pos h1, if_pos h1]
  · rw [if_neg h1] at hs
    rw [if_neg (by rw [h]; decide), if_neg h1, if_neg h1]
    by_cases h2 : goS all = 0
    · have h2' : ¬ (goS all ≠ 0) := by rw [h2]; decide
      rw [if_neg h2'] at hs
      rw [if_neg h2', if_neg h2']
      by_cases h3 : NeS all
      · rw [if_pos h3] at hs; exact absurd rfl hs
      · have h4 : ¬ DstS all := fun hd => h3 (srsok_of (goS_ok.1 h2) hd).dst
        rw [if_neg h3, if_pos h4]
    · rw [if_pos h2, if_pos h2]
theorem ser_zero {all : List Srs} (hs : serF all = 0) : ¬ 200 < all.length ∧ goS all = 0 ∧ DstS all := by
  unfold serF at hs
  split at hs
  · exact absurd hs (by decide)
  · rename_i h1
    split at hs
    · rename_i h2; exact absurd hs h2
    · rename_i h2
      split at hs
      · rename_i h3
        have h2 : goS all = 0 := by simpa using h2
        exact ⟨h1, h2, dstS_of (fun s hs => (goS_ok.1 h2 s hs).1) h3⟩
      · exact absurd hs (by decide)
set_option maxHeartbeats 16000000 in
set_option maxRecDepth 100000 in
theorem serfault_any (all : List Srs) (v : Value) (w : World) (hv : Sp SrR 2 w v all) : Calls Tryz.prog 28 #[v] w fun e w' => e = .returned (.int .i64 (serF all)) ∧ Below w.heap.size w w' := by
  obtain ⟨n, hn⟩ : ∃ n, all.length = n := ⟨_, rfl⟩
  obtain ⟨ao, c, rfl, hnc, hc⟩ := hv.shapeN hn
  have HV := Lib.hid hv
  have HN := Lib.hid hn
  clear hv hn
  by_cases hbig : 200 < n
  · have HE : Hid (serF all = 2) := Lib.hid (by unfold serF; rw [if_pos (by rw [HN.out]; exact hbig)])
    have t3 : (200 : Int) < (n : Int) := by omega
    go_enter Tryz.func28, Tryz.ntmps28
    go_wp2_with fail
    go_ret
    exact ⟨by rw [HE.out]; rfl, Below.refl _ _⟩
  have t3 : ¬ ((200 : Int) < (n : Int)) := by omega
  have hn200 : n ≤ 200 := by omega
  clear hbig
  go_enter Tryz.func28, Tryz.ntmps28
  go_wp2_with fail
  go_loopw [14] (fun i wr => ∃ k : Nat, k ≤ n ∧ i = .int .i64 k ∧ Hid (∀ s ∈ all.take k, SOk s) ∧ Hid (Below w.heap.size w wr)) (fun i _ => n - (intOf i).toNat)
  case atStart => exact ⟨0, Nat.zero_le _, rfl, Lib.hid (fun s hs => by simp at hs), Lib.hid (Below.refl _ _)⟩
  case round =>
  obtain ⟨k, hk, rfl, HOK, HBR⟩ := hrel
  by_cases hlt : k < n
  case pos =>
    obtain ⟨q, hq⟩ : ∃ s, all[k]? = some s := ⟨_, List.getElem?_eq_getElem (by rw [HN.out]; exact hlt)⟩
    obtain ⟨L, Q⟩ := q
    obtain ⟨b, off, cs, rfl, ⟨t, u, rfl, ht, hu, hr64, hul⟩, -, hcell⟩ := (HV.out.below srR_mono HBR.out).get hq
    obtain ⟨ta, tc, rfl, -, -⟩ := ht.shape
    obtain ⟨tl, htl⟩ : ∃ n, L.length = n := ⟨_, rfl⟩
    obtain ⟨uo, uc, rfl, -, -, -⟩ := hu.shape
    obtain ⟨ul, hull⟩ : ∃ n, Q.length = n := ⟨_, rfl⟩
    simp only at ht hu hr64 hul hcell
    rw [htl] at ht hcell
    rw [hull] at hu hcell hul
    have c0 := hcell 0 _ rfl
    have c1 := hcell 1 _ rfl
    rw [Nat.add_zero] at c0
    have HAT := Lib.hid (goS_at HOK.out hq)
    have HST : Hid (SOk (L, Q) → ∀ s ∈ all.take (k + 1), SOk s) := Lib.hid (fun h => ok_step HOK.out hq h)
    obtain ⟨wb, hwb⟩ : ∃ wb, wb = wr.alloc (.cells #[.slice ta tl tc, .slice uo ul uc] 88) := ⟨_, rfl⟩
    have hBB : Below wr.heap.size wr wb := by rw [hwb]; exact (Below.refl _ wr).alloc (Nat.le_refl _) _
    have hsb : wb.heap[wr.heap.size]? = some (.cells #[.slice ta tl tc, .slice uo ul uc] 88 (0, 0)) := by rw [hwb]; exact heap_alloc_new wr _
    have HLC := Lib.hid (lbfault_any (.slice ta tl tc) L wb (ht.below lbR_mono hBB))
    have HCC := Lib.hid (fun W (hb : Below wb.heap.size wb W) => Smp.samplesfault_any (.slice uo ul uc) ul Q W ((hu.below hBB).below hb) hull hr64 hul)
    obtain ⟨FL, hFL⟩ : ∃ F, labelF L = F := ⟨_, rfl⟩
    obtain ⟨FS, hFS⟩ : ∃ F, Smp.sampF Q = F := ⟨_, rfl⟩
    simp only at HAT
    rw [hFL] at HLC
    rw [hFS] at HCC
    rw [hFL, hFS] at HAT
    have HFLS := Lib.hid (And.intro hFL hFS)
    have HBY := Lib.hid (HBR.out.trans (hBB.mono HBR.out.size))
    have HSB := Lib.hid hsb
    have hk0 : (0 : Int) ≤ (k : Int) := by omega
    have hk1 : (k : Int) < (n : Int) := by omega
    obtain ⟨⟨s0, s1⟩, -⟩ := bx2 hsb
    have hyl := (Array.getElem?_eq_some_iff.1 hsb).1
    clear hq ht hu hr64 hul hcell htl hull hFL hFS hsb
    go_upto_region 6 with (fail)
    rw [← hwb]
    clear hwb hBB c0 c1
    generalize hby : wr.heap.size = yb at *
    go_wp2_with fail
    refine HLC.out.mono ?_
    rintro e w3 ⟨rfl, hb3⟩
    have HY3 := Lib.hid (HBY.out.trans (hb3.mono HBY.out.size))
    obtain ⟨⟨g0, g1⟩, -⟩ := bx2 ((hb3.block yb hyl).trans HSB.out)
    have HCC3 := Lib.hid (HCC.out w3 hb3)
    clear hb3 s0 s1
    by_cases hfl : FL = 0
    case neg =>
      have t4 : (FL != 0) = true := by rw [bne_iff_ne]; exact hfl
      have HE : Hid (serF all = FL) := Lib.hid (by
        have e1 : goS all = FL := by rw [HAT.out, if_pos hfl]
        unfold serF; rw [if_neg (by rw [HN.out]; omega), if_pos (by rw [e1]; exact hfl), e1])
      clear hfl
      go_wp2_with fail
      go_ret
      exact ⟨by rw [HE.out]; rfl, HY3.out⟩
    subst hfl
    go_wp2_with fail
    refine HCC3.out.mono ?_
    rintro e w4 ⟨rfl, hb4⟩
    have HY4 := Lib.hid (HY3.out.trans (hb4.mono HY3.out.size))
    clear hb4
    by_cases hfs : FS = 0
    case neg =>
      have t4 : (FS != 0) = true := by rw [bne_iff_ne]; exact hfs
      have HE : Hid (serF all = FS) := Lib.hid (by
        have e1 : goS all = FS := by rw [HAT.out, if_neg (by decide), if_pos hfs]
        unfold serF; rw [if_neg (by rw [HN.out]; omega), if_pos (by rw [e1]; exact hfs), e1])
      clear hfs
      go_wp2_with fail
      go_ret
      exact ⟨by rw [HE.out]; rfl, HY4.out⟩
    subst hfs
    have HS2 : Hid (∀ s ∈ all.take (k + 1), SOk s) := Lib.hid (HST.out ⟨HFLS.out.1, HFLS.out.2⟩)
    go_wp2_with fail
    go_roundw
    case rel => exact ⟨k + 1, by omega, by go_num, HS2, HY4⟩
    case measure => simp [intOf]; omega
  obtain rfl : k = n := by omega
  have HGO : Hid (goS all = 0) := Lib.hid (goS_ok.2 (by have h := HOK.out; rwa [List.take_of_length_le (by rw [HN.out]; exact Nat.le_refl _)] at h))
  clear HOK hk hlt
  obtain ⟨w5, hw5⟩ : ∃ x, x = wr := ⟨_, rfl⟩
  rw [← hw5] at HBR
  have HW5 := Lib.hid hw5
  clear hw5
  rw [← HW5.out]
  have HBW5 := Lib.hid HBR.out
  clear HBR
  have HD00 : Hid (NeS (all.take 0)) := Lib.hid (by rw [List.take_zero]; exact List.Pairwise.nil)
  go_wp2_with fail
  go_loopw [33] (fun i wr => ∃ j : Nat, j ≤ k ∧ i = .int .i64 j ∧ Hid (NeS (all.take j)) ∧ Hid (Below w.heap.size w wr)) (fun i _ => k - (intOf i).toNat)
  case atStart => exact ⟨0, Nat.zero_le _, rfl, HD00, HBW5⟩
  case round =>
  obtain ⟨j, hj, rfl, HDS, HBR⟩ := hrel
  by_cases hlt : j < k
  case neg =>
    obtain rfl : j = k := by omega
    have HE : Hid (serF all = 0) := Lib.hid (by
      have h := HDS.out
      rw [List.take_of_length_le (by rw [HN.out]; exact Nat.le_refl _)] at h
      unfold serF; rw [if_neg (by rw [HN.out]; omega), if_neg (by rw [HGO.out]; decide), if_pos h])
    go_wp2_with fail
    go_ret
    exact ⟨by rw [HE.out]; rfl, HBR.out⟩
  obtain ⟨q, hq⟩ : ∃ s, all[j]? = some s := ⟨_, List.getElem?_eq_getElem (by rw [HN.out]; exact hlt)⟩
  have HQ := Lib.hid hq
  have hj0 : (0 : Int) ≤ (j : Int) := by omega
  have hj1 : (j : Int) < (k : Int) := by omega
  clear hq
  obtain ⟨wo, hwo⟩ : ∃ x, x = wr := ⟨_, rfl⟩
  go_wp2_with fail
  go_loopw [37] (fun i wr => ∃ i' : Nat, i' ≤ j ∧ i = .int .i64 i' ∧ Hid (∀ a ∈ all.take i', q.1 ≠ a.1) ∧ Hid (Below w.heap.size w wr)) (fun i _ => j - (intOf i).toNat)
  case atStart => exact ⟨0, Nat.zero_le _, rfl, Lib.hid (fun a ha => by simp at ha), HBR⟩
  case round =>
  obtain ⟨i, hi, rfl, HNE, HBI⟩ := hrel
  by_cases hlti : i < j
  case neg =>
    obtain rfl : i = j := by omega
    have HDS2 : Hid (NeS (all.take (i + 1))) := Lib.hid (ne_step HDS.out HQ.out HNE.out)
    go_wp2_with fail
    go_roundw
    case rel => exact ⟨i + 1, by omega, by go_num, HDS2, HBI⟩
    case measure => simp [intOf]; omega
  obtain ⟨p, hp⟩ : ∃ s, all[i]? = some s := ⟨_, List.getElem?_eq_getElem (by rw [HN.out]; omega)⟩
  obtain ⟨b1, o1, cs1, e1, ⟨t1, u1, rfl, ht1, hu1, -, -⟩, -, h1⟩ := (HV.out.below srR_mono HBI.out).get HQ.out
  obtain ⟨b2, o2, cs2, e2, ⟨t2, u2, rfl, ht2, hu2, -, -⟩, -, h2⟩ := (HV.out.below srR_mono HBI.out).get hp
  obtain rfl := e1
  simp at e2
  obtain ⟨rfl, rfl⟩ := e2
  obtain ⟨ta, tc, rfl, -, -⟩ := ht1.shape
  obtain ⟨ua, uc, rfl, -, -⟩ := ht2.shape
  have x0 := h1 0 _ rfl
  have y0 := h2 0 _ rfl
  rw [Nat.add_zero] at x0 y0
  have HPI := Lib.hid hp
  obtain ⟨D, hD⟩ : ∃ D, decide (q.1 = p.1) = D := ⟨_, rfl⟩
  have HD := Lib.hid hD
  have HSM := Lib.hid (fun W (hb : Below wr.heap.size wr W) => samelb_any _ _ q.1 p.1 W (ht1.below lbR_mono hb) (ht2.below lbR_mono hb))
  rw [hD] at HSM
  have HC : Hid (∀ W, Below wr.heap.size wr W → W.cell? ⟨b1, o1 + j * 2, none⟩ = some (.slice ta q.1.length tc) ∧ W.cell? ⟨b1, o1 + i * 2, none⟩ = some (.slice ua p.1.length uc)) := Lib.hid (fun W hb =>
    ⟨(hb.cell (p := ⟨_, _, none⟩) (cell_lt x0)).trans x0, (hb.cell (p := ⟨_, _, none⟩) (cell_lt y0)).trans y0⟩)
  have HD0 := Lib.hid (Below.refl wr.heap.size wr).drew
  have q0 := HC.out _ HD0.out
  have hi0 : (0 : Int) ≤ (i : Int) := by omega
  have hi1 : (i : Int) < (k : Int) := by omega
  obtain ⟨l1, hl1⟩ : ∃ l, q.1.length = l := ⟨_, rfl⟩
  obtain ⟨l2, hl2⟩ : ∃ l, p.1.length = l := ⟨_, rfl⟩
  rw [hl1, hl2] at HC q0
  rw [hl1, hl2] at HSM
  clear hp h1 h2 ht1 ht2 hu1 hu2 x0 y0 hD hl1 hl2
  go_upto_region 19 with (fail)
  go_region_held3 (fun W => W.cell? ⟨b1, o1 + j * 2, none⟩ = some (.slice ta l1 tc) ∧ W.cell? ⟨b1, o1 + i * 2, none⟩ = some (.slice ua l2 uc)) (first | (with_reducible exact q1) | (with_reducible exact q0) | go_keep) (first
    | (go_at_call 14; refine (HSM.out _ HD0.out).mono ?_; rintro e w2 ⟨rfl, hb2⟩; have hb12 : Below wr.heap.size wr w2 := HD0.out.trans (hb2.mono HD0.out.size); have q1 := HC.out _ hb12; have HB2 := Lib.hid (HBI.out.trans (hb12.mono HBI.out.size)); clear hb2 hb12))
  all_goals
    clear q0 q1
    cases D with
    | true =>
      have HE : Hid (serF all = 8) := Lib.hid (by
        unfold serF; rw [if_neg (by rw [HN.out]; omega), if_neg (by rw [HGO.out]; decide), if_neg (ne_not HQ.out HPI.out hlti (of_decide_eq_true HD.out))])
      go_wp2_with fail
      go_ret
      exact ⟨by rw [HE.out]; rfl, HB2.out⟩
    | false =>
      have HNE2 : Hid (∀ a ∈ all.take (i + 1), q.1 ≠ a.1) := Lib.hid (fun a ha => by
        rw [List.take_add_one, HPI.out] at ha
        rcases List.mem_append.1 ha with ha | ha
        · exact HNE.out a ha
        · obtain rfl : a = p := by simpa using ha
          exact of_decide_eq_false HD.out)
      go_wp2_with fail
      go_roundw
      case rel => exact ⟨i + 1, by omega, by go_num, HNE2, HB2⟩
      case measure => simp [intOf]; omega
end Go.Proofs.YtjmplhkdohlbcaaGreatDoor.Evl
/-
  Asked: the walks of a number and of what is chosen.
-/
namespace Go.Proofs.YtjmplhkdohlbcaaGreatDoor.Evl
open Go.RowKit Go.Gh Go.Gh.Clr Go.WideShapes Go.Proofs.YtjmplhkdohlbcaaGreatDoor.Lab Go.Proofs.YtjmplhkdohlbcaaGreatDoor.Exp
set_option linter.unusedVariables false
set_option linter.unusedSimpArgs false
/-- What Asked answers. -/
def AsP (w : World) (S : List Rw) (e : Ending) (w' : World) : Prop := ∃ v, e = .returned v ∧ Sp RdR 2 w' v S ∧ Below w.heap.size w w'
/-- What stands in a loop. -/
def AsAt (w : World) (S : List Rw) (o : Value) (wr : World) : Prop := Sp RdR 2 wr o S ∧ Below w.heap.size w wr
theorem AsAt.below {w wr w' : World} {S : List Rw} {o : Value} (h : AsAt w S o wr) (hb : Below wr.heap.size wr w') : AsAt w S o w' := ⟨h.1.below rdR_mono hb, h.2.trans (hb.mono h.2.size)⟩
theorem MoP.as {w wr w' : World} {S : List Rw} {e : Ending} (h : MoP wr S e w') (hb : Below w.heap.size w wr) : ∃ v, e = .returned v ∧ AsAt w S v w' ∧ Below wr.heap.size wr w' := by
  obtain ⟨v, rfl, ho, hb2⟩ := h
  obtain ⟨P, h1, h2, h3, h4⟩ := ho.sp
  exact ⟨v, rfl, ⟨⟨P, h1, h2, fun p hp => rdR_mono _ _ _ _ (h3 p hp) hb2, h4⟩, hb.trans (hb2.mono hb.size)⟩, hb2⟩
structure FineN (n : Nat) (S : List Rw) : Prop where
  asc : Asc2 S
  gd : Gd S
  len : S.length ≤ n
theorem mo_fine {n : Nat} {f : Int → Int → Int} {r : Rw} {o : List Rw} (h : FineN n o) (hr : labelF r.1 = 0) : FineN (n + 1) (moreF f r o) := by
  obtain ⟨h1, h2⟩ := put_more (f := f) (r := r) h.asc (List.Perm.refl _)
  refine ⟨h2, fun x hx => put_gd hr h.gd x (h1.mem_iff.1 hx), ?_⟩
  rw [h1.length_eq]
  have h3 := putP_len (f := f) (r := r) o
  have h4 := h.len
  omega
theorem FineN.mono {n m : Nat} {S : List Rw} (h : FineN n S) (hm : n ≤ m) : FineN m S := ⟨h.asc, h.gd, Nat.le_trans h.len hm⟩
theorem one_fine {n : Nat} {now wd : Int} {L : List Lb} {Q : List (List Int)} {o : List Rw} (h : FineN n o) (hL : labelF L = 0) : FineN (n + 1) (Q.foldl (oneR now wd L) o) := by
  rw [one_fold now wd L Q h.asc]
  split
  · exact h.mono (by omega)
  · exact mo_fine h hL
theorem sel1_fine {n : Nat} {now wd : Int} {m : List Mt} {s : Srs} {o : List Rw} (h : FineN n o) (hL : labelF s.1 = 0) : FineN (n + 1) (selR1 now wd m o s) := by
  unfold selR1
  split
  · exact one_fine h hL
  · exact h.mono (by omega)
theorem fold_step {α β : Type} {f : β → α → β} {l : List α} {k : Nat} {x : α} {o : β} (h : l[k]? = some x) : (l.take (k + 1)).foldl f o = f ((l.take k).foldl f o) x := by
  rw [List.take_add_one, h, List.foldl_append]
  rfl
theorem selk_fine {now wd : Int} {m : List Mt} {all : List Srs} (h : ∀ s ∈ all, labelF s.1 = 0) : ∀ k, k ≤ all.length → FineN k ((all.take k).foldl (selR1 now wd m) [])
  | 0, _ => ⟨asc_nil, fun x hx => by simp at hx, Nat.le_refl _⟩
  | k + 1, hk => by
    have hs : all[k]? = some all[k] := List.getElem?_eq_getElem (by omega)
    rw [fold_step hs]
    exact sel1_fine (selk_fine h k (by omega)) (h _ (List.getElem_mem _))
set_option maxHeartbeats 8000000 in
set_option maxRecDepth 100000 in
theorem asked_num (n : Int) (u1 u2 u3 u4 : Value) (v : Value) (now : Int) (w : World) : Calls Tryz.prog 32 #[.agg #[.int .i64 1, .int .i64 n, u1, u2, u3, u4], v, .int .i64 now] w (AsP w [([], n)]) := by
  obtain ⟨wa, hwa, hbox, hba, hsa⟩ := box_ex w (.int .i64 1) (.int .i64 n) u1 u2 u3 u4
  have HWA := Lib.hid hwa
  have HBA := Lib.hid hba
  obtain ⟨⟨d0, d1, -, -, -, -⟩, -⟩ := bx6 hbox
  have hw9 : w.heap.size ≤ wa.heap.size := by omega
  have HE : Hid (AsP w [([], n)] (.returned (.slice (some ⟨wa.heap.size, 0, none⟩) 1 1)) (wa.alloc (.cells #[.slice none 0 0, .int .i64 n] 96))) := Lib.hid (by
    have ha := (Below.refl wa.heap.size wa).alloc (Nat.le_refl _) (Obj.cells #[.slice none 0 0, .int .i64 n] 96)
    refine ⟨_, rfl, ⟨[(([], n), [.slice none 0 0, .int .i64 n])], rfl, ?_, ?_, ?_⟩, hba.trans (ha.mono hw9)⟩
    · intro p hp
      obtain rfl := List.mem_singleton.1 hp
      rfl
    · intro p hp
      obtain rfl := List.mem_singleton.1 hp
      exact ⟨_, rfl, Sp.nil⟩
    · exact sl_new wa (e := 96) (size := 2) (n := 1) [.slice none 0 0, .int .i64 n] rfl (by decide))
  clear hwa hbox hba hsa
  go_enter Tryz.func32, Tryz.ntmps32
  go_upto_region 3 with (fail)
  rw [← HWA.out]
  generalize hbx : w.heap.size = bx at *
  go_wp2_with fail
  go_ret
  exact HE.out
set_option maxHeartbeats 16000000 in
set_option maxRecDepth 100000 in
theorem asked_sel (all : List Srs) (now : Int) (ms : List Mt) (k1 wd : Int) (um ub ux v : Value) (w : World) (hv : Sp SrR 2 w v all) (hm : Sp MtR 3 w um ms) (hA : AllOk all now) (h0 : matchF ms = 0) (hw1 : 1 ≤ wd) (hw2 : wd ≤ 1099511627776) :
    Calls Tryz.prog 32 #[.agg #[.int .i64 2, .int .i64 k1, .int .i64 wd, um, ub, ux], v, .int .i64 now] w (AsP w (selR all now wd ms)) := by
  obtain ⟨n, hn⟩ : ∃ n, all.length = n := ⟨_, rfl⟩
  obtain ⟨ao, c, rfl, hnc, hc⟩ := hv.shapeN hn
  obtain ⟨am, cm, rfl, -, -⟩ := hm.shape
  obtain ⟨lm, hlm⟩ : ∃ n, ms.length = n := ⟨_, rfl⟩
  rw [hlm] at hm ⊢
  obtain ⟨wa, hwa, hbox, hba, hsa⟩ := box_ex w (.int .i64 2) (.int .i64 k1) (.int .i64 wd) (.slice am lm cm) ub ux
  have HWA := Lib.hid hwa
  have HBA := Lib.hid hba
  have HV := Lib.hid hv
  have HM := Lib.hid hm
  have HA := Lib.hid hA
  have H0 := Lib.hid h0
  have HN := Lib.hid hn
  have HX := Lib.hid hbox
  have hn200 : n ≤ 200 := by rw [← hn]; exact hA.len
  have e1 : wrap64 (now - wd) = now - wd := IntWalk.wrap64_in (now - wd) (by have := hA.lo; have := hA.hi; omega)
  obtain ⟨⟨d0, -, -, -, -, -⟩, -⟩ := bx6 hbox
  have H00 : Hid (AsAt w ((all.take 0).foldl (selR1 now wd ms) []) (.slice none 0 0) wa) := Lib.hid ⟨Sp.nil, hba⟩
  clear hv hm hA h0 hn hlm hwa hbox hba hsa
  go_enter Tryz.func32, Tryz.ntmps32
  go_upto_region 3 with (fail)
  rw [← HWA.out]
  generalize hbx : w.heap.size = bx at *
  go_wp2_with fail
  go_loopw [7, 42] (fun o i wr => ∃ k : Nat, k ≤ n ∧ i = .int .i64 k ∧ Hid (AsAt w ((all.take k).foldl (selR1 now wd ms) []) o wr) ∧ Hid (Below wa.heap.size wa wr)) (fun _ i _ => n - (intOf i).toNat)
  case atStart => exact ⟨0, Nat.zero_le _, rfl, H00, Lib.hid (Below.refl _ _)⟩
  case round =>
  obtain ⟨k, hk, rfl, HR, HB⟩ := hrel
  by_cases hlt : k < n
  case neg =>
    obtain rfl : k = n := by omega
    have HE : Hid (AsP w (selR all now wd ms) (.returned u7) wr) := Lib.hid (by
      have h := HR.out
      rw [List.take_of_length_le (by rw [HN.out]; exact Nat.le_refl _)] at h
      exact ⟨u7, rfl, h.1, h.2⟩)
    go_wp2_with fail
    go_ret
    exact HE.out
  obtain ⟨q, hq⟩ : ∃ s, all[k]? = some s := ⟨_, List.getElem?_eq_getElem (by rw [HN.out]; exact hlt)⟩
  obtain ⟨L, Q⟩ := q
  obtain ⟨b, off, cs, rfl, ⟨t, u, rfl, ht, hu, hr64, hul⟩, -, hcell⟩ := (HV.out.below srR_mono HR.out.2).get hq
  obtain ⟨ta, tc, rfl, -, -⟩ := ht.shape
  obtain ⟨tl, htl⟩ : ∃ n, L.length = n := ⟨_, rfl⟩
  obtain ⟨uo, uc, rfl, -, -, -⟩ := hu.shape
  obtain ⟨ul, hull⟩ : ∃ n, Q.length = n := ⟨_, rfl⟩
  simp only at ht hu hr64 hul hcell
  rw [htl] at ht hcell
  rw [hull] at hu hcell hul
  have c0 := hcell 0 _ rfl
  have c1 := hcell 1 _ rfl
  rw [Nat.add_zero] at c0
  have hLQ := HA.out.smp _ (List.mem_of_getElem? hq)
  have HNX := Lib.hid (fold_step (f := selR1 now wd ms) (o := []) hq)
  obtain ⟨R, hR⟩ : ∃ R, (all.take k).foldl (selR1 now wd ms) [] = R := ⟨_, rfl⟩
  have HFN := Lib.hid (selk_fine (now := now) (wd := wd) (m := ms) HA.out.ok.lab k (by rw [HN.out]; omega))
  rw [hR] at HR HNX HFN
  obtain ⟨wb, hwb⟩ : ∃ wb, wb = wr.alloc (.cells #[.slice ta tl tc, .slice uo ul uc] 88) := ⟨_, rfl⟩
  have hBB : Below wr.heap.size wr wb := by rw [hwb]; exact (Below.refl _ wr).alloc (Nat.le_refl _) _
  have hsb : wb.heap[wr.heap.size]? = some (.cells #[.slice ta tl tc, .slice uo ul uc] 88 (0, 0)) := by rw [hwb]; exact heap_alloc_new wr _
  have HRb := Lib.hid (HR.out.below hBB)
  have HBb := Lib.hid (HB.out.trans (hBB.mono HB.out.size))
  have HFA := Lib.hid (fitsall_any (.slice ta tl tc) (.slice am lm cm) L ms wb (ht.below lbR_mono hBB) (HM.out.below mtR_mono HRb.out.2) hLQ.1 H0.out)
  obtain ⟨FB, hFB⟩ : ∃ F, fitsB L ms = F := ⟨_, rfl⟩
  rw [hFB] at HFA
  have HFB := Lib.hid hFB
  have HTT := Lib.hid (ht.below lbR_mono hBB)
  have HUU := Lib.hid (hu.below hBB)
  have HR64 := Lib.hid hr64
  have HUL := Lib.hid hull
  have hul2 : ul ≤ 140737488355328 := hul
  have HLQ := Lib.hid hLQ
  have HSB := Lib.hid hsb
  obtain ⟨⟨s0, s1⟩, -⟩ := bx2 hsb
  obtain ⟨⟨-, -, -, z3, -, -⟩, -⟩ := bx6 ((HBb.out.block bx (Array.getElem?_eq_some_iff.1 HX.out).1).trans HX.out)
  have hyl := (Array.getElem?_eq_some_iff.1 hsb).1
  have hk0 : (0 : Int) ≤ (k : Int) := by omega
  have hk1 : (k : Int) < (n : Int) := by omega
  clear hq ht hu hr64 hul hcell htl hull hFB hR hLQ hsb
  go_upto_region 10 with (fail)
  rw [← hwb]
  clear hwb hBB c0 c1
  generalize hby : wr.heap.size = yb at *
  clear HR HB
  go_wp2_with fail
  refine HFA.out.mono ?_
  rintro e w3 ⟨rfl, hb3⟩
  have HR3 := Lib.hid (HRb.out.below hb3)
  have HB3 := Lib.hid (HBb.out.trans (hb3.mono HBb.out.size))
  have HTT3 := Lib.hid (HTT.out.below lbR_mono hb3)
  have HUU3 := Lib.hid (HUU.out.below hb3)
  have HY3 := Lib.hid ((hb3.block yb hyl).trans HSB.out)
  obtain ⟨⟨g0, g1⟩, -⟩ := bx2 HY3.out
  clear hb3 s0 s1 z3
  cases FB with
  | false =>
    have HR4 : Hid (AsAt w ((all.take (k + 1)).foldl (selR1 now wd ms) []) u7 w3) := Lib.hid (by
      rw [HNX.out]
      unfold selR1
      rw [if_neg (by rw [HFB.out]; decide)]
      exact HR3.out)
    go_wp2_with fail
    go_roundw
    case rel => exact ⟨k + 1, by omega, by go_num, HR4, HB3⟩
    case measure => simp [intOf]; omega
  | true =>
    have HNX2 : Hid ((all.take (k + 1)).foldl (selR1 now wd ms) [] = Q.foldl (oneR now wd L) R) := Lib.hid (by
      rw [HNX.out]
      unfold selR1
      rw [if_pos HFB.out])
    have H03 : Hid (AsAt w ((Q.take 0).foldl (oneR now wd L) R) u7 w3) := Lib.hid (by rw [List.take_zero]; exact HR3.out)
    go_wp2_with fail
    go_loopw [7, 55] (fun o i wr => ∃ j : Nat, j ≤ ul ∧ i = .int .i64 j ∧ Hid (AsAt w ((Q.take j).foldl (oneR now wd L) R) o wr) ∧ Hid (Below w3.heap.size w3 wr)) (fun _ i _ => ul - (intOf i).toNat)
    case atStart => exact ⟨0, Nat.zero_le _, rfl, H03, Lib.hid (Below.refl _ _)⟩
    case round =>
    obtain ⟨j, hj, rfl, HRI, HBI⟩ := hrel
    by_cases hltj : j < ul
    case neg =>
      obtain rfl : j = ul := by omega
      have HR4 : Hid (AsAt w ((all.take (k + 1)).foldl (selR1 now wd ms) []) u7 wr) := Lib.hid (by
        have h := HRI.out
        rw [List.take_of_length_le (by rw [HUL.out]; exact Nat.le_refl _)] at h
        rw [HNX2.out]
        exact h)
      have HB4 := Lib.hid (HB3.out.trans (HBI.out.mono HB3.out.size))
      go_wp2_with fail
      go_roundw
      case rel => exact ⟨k + 1, by omega, by go_num, HR4, HB4⟩
      case measure => simp [intOf]; omega
    obtain ⟨z, hz⟩ : ∃ z, Q[j]? = some z := ⟨_, List.getElem?_eq_getElem (by rw [HUL.out]; exact hltj)⟩
    obtain ⟨vb, vo, rfl, -, hvc⟩ := (HUU3.out.below HBI.out).rowk HUL.out HR64.out.k hltj
    have hz0 : Q.getD j [] = z := by rw [List.getD_eq_getElem?_getD, hz]; rfl
    rw [hz0] at hvc
    have v0 : wr.cell? ⟨vb, vo + j * 2 + 0, none⟩ = some (.int .i64 (rg z 0)) := hvc 0 (by decide)
    have v1 : wr.cell? ⟨vb, vo + j * 2 + 1, none⟩ = some (.int .i64 (rg z 1)) := hvc 1 (by decide)
    rw [Nat.add_zero] at v0
    have HNI := Lib.hid (fold_step (f := oneR now wd L) (o := R) hz)
    obtain ⟨RI, hRI⟩ : ∃ S, (Q.take j).foldl (oneR now wd L) R = S := ⟨_, rfl⟩
    have HFI := Lib.hid (one_fine (now := now) (wd := wd) (Q := Q.take j) HFN.out HLQ.out.1)
    rw [hRI] at HRI HNI HFI
    obtain ⟨T, hT⟩ : ∃ T, rg z 0 = T := ⟨_, rfl⟩
    obtain ⟨V, hV⟩ : ∃ T, rg z 1 = T := ⟨_, rfl⟩
    rw [hT] at v0
    rw [hV] at v1
    have HTV := Lib.hid (And.intro hT hV)
    obtain ⟨wc, hwc⟩ : ∃ wb, wb = wr.alloc (.cells #[.int .i64 T, .int .i64 V] 101) := ⟨_, rfl⟩
    have hBC : Below wr.heap.size wr wc := by rw [hwc]; exact (Below.refl _ wr).alloc (Nat.le_refl _) _
    have hsc : wc.heap[wr.heap.size]? = some (.cells #[.int .i64 T, .int .i64 V] 101 (0, 0)) := by rw [hwc]; exact heap_alloc_new wr _
    have HRc := Lib.hid (HRI.out.below hBC)
    have HBc := Lib.hid (HBI.out.trans (hBC.mono HBI.out.size))
    obtain ⟨⟨g0, g1⟩, -⟩ := bx2 ((HBc.out.block yb (Array.getElem?_eq_some_iff.1 HY3.out).1).trans HY3.out)
    obtain ⟨⟨-, -, z2, -, -, -⟩, -⟩ := bx6 ((HBc.out.block bx (Nat.lt_of_lt_of_le (Array.getElem?_eq_some_iff.1 HX.out).1 HB3.out.size)).trans ((HB3.out.block bx (Array.getElem?_eq_some_iff.1 HX.out).1).trans HX.out))
    obtain ⟨⟨s0, s1⟩, -⟩ := bx2 hsc
    have HMO := Lib.hid (more1_any RI L V u7 (.slice ta tl tc) wc HRc.out.1 (HTT3.out.below lbR_mono HBc.out) HFI.out.gd HLQ.out.1 (by have := HFI.out.len; omega))
    have hj0 : (0 : Int) ≤ (j : Int) := by omega
    have hj1 : (j : Int) < (ul : Int) := by omega
    clear hz hvc hz0 hRI hT hV hsc
    go_upto_region 14 with (fail)
    rw [← hwc]
    clear hwc v0 v1 hBC
    generalize hbz : wr.heap.size = zb at *
    clear HRI HBI
    by_cases h1 : now - wd < T
    case neg =>
      have HR4 : Hid (AsAt w ((Q.take (j + 1)).foldl (oneR now wd L) R) u7 wc) := Lib.hid (by
        rw [HNI.out]
        unfold oneR
        rw [if_neg (by rw [HTV.out.1]; exact fun h => h1 h.1)]
        exact HRc.out)
      have t1 : decide (now - wd < T) = false := decide_eq_false h1
      clear h1
      go_wp2_with fail
      go_roundw
      case rel => exact ⟨j + 1, by omega, by go_num, HR4, HBc⟩
      case measure => simp [intOf]; omega
    by_cases h2 : T ≤ now
    case neg =>
      have HR4 : Hid (AsAt w ((Q.take (j + 1)).foldl (oneR now wd L) R) u7 wc) := Lib.hid (by
        rw [HNI.out]
        unfold oneR
        rw [if_neg (by rw [HTV.out.1]; exact fun h => h2 h.2)]
        exact HRc.out)
      have t1 : decide (now - wd < T) = true := decide_eq_true h1
      have t2 : decide (T ≤ now) = false := decide_eq_false h2
      clear h2
      go_wp2_with fail
      go_roundw
      case rel => exact ⟨j + 1, by omega, by go_num, HR4, HBc⟩
      case measure => simp [intOf]; omega
    have t1 : decide (now - wd < T) = true := decide_eq_true h1
    have t2 : decide (T ≤ now) = true := decide_eq_true h2
    have HNI2 : Hid ((Q.take (j + 1)).foldl (oneR now wd L) R = moreF sec (L, V) RI) := Lib.hid (by
      rw [HNI.out]
      unfold oneR
      rw [if_pos (by rw [HTV.out.1]; exact ⟨h1, h2⟩), HTV.out.2])
    go_wp2_with fail
    refine HMO.out.mono ?_
    intro e w5 hP
    obtain ⟨v5, rfl, ha5, hb5⟩ := hP.as HRc.out.2
    have HR5 : Hid (AsAt w ((Q.take (j + 1)).foldl (oneR now wd L) R) v5 w5) := Lib.hid (by rw [HNI2.out]; exact ha5)
    have HB5 := Lib.hid (HBc.out.trans (hb5.mono HBc.out.size))
    clear hP ha5 hb5 s0 s1 g0 g1 z2
    go_wp2_with fail
    go_roundw
    case rel => exact ⟨j + 1, by omega, by go_num, HR5, HB5⟩
    case measure => simp [intOf]; omega
end Go.Proofs.YtjmplhkdohlbcaaGreatDoor.Evl
