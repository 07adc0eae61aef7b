/-
  A shard of the reference: the walk of Copy.
-/
import Derived.Test.YtcljeedmiobepaaHd10
namespace Go.Proofs.Ytcljeedmiobepaa.Hd
open Go.RowKit Go.Gh Go.Maps Go.WideShapes Go.Proofs.Ytcljeedmiobepaa.Rk
set_option linter.unusedVariables false
def CpRel (B mb bh bn : Nat) (s : Hd) (n : Int) (vl : Value) (m : Nat) (w : World) (x : Value) (wr : World) : Prop := ∃ (j : Nat) (vl' : Value), j ≤ m ∧ (j : Int) ≤ n ∧ x = .int .i64 (n - j) ∧ RAt B mb bh ⟨s.e, s.o, s.t, s.has, foldU s.next (s.left.take j), s.left.drop j⟩ (.map (some bn)) vl' wr ∧ Gt B vl vl' w wr
theorem ob_sliced (lo : Option Addr) (j m c k : Nat) : ∀ g, (sliced lo j m c k).ownBlock = some g → (Value.slice lo m c).ownBlock = some g := fun g hg => by
  unfold sliced at hg
  cases lo with
  | none => split at hg <;> simp [Value.ownBlock] at hg
  | some a =>
    split at hg
    · simpa [Value.ownBlock] using hg
    · have hk : ∀ k, (a.add k).block = a.block := fun k => by
        unfold Addr.add
        split <;> rfl
      simp only [Option.map_some, Value.ownBlock, Option.some.injEq] at hg ⊢
      rw [hk] at hg
      exact hg
theorem ns_tail1 {w : World} {lo : Option Addr} {q lc : Nat} {L : List Int} (h : Ns w (.slice lo (q + 1) lc) L) (hL : L.length = q + 1) : Ns w (sliced lo 1 (q + 1) lc 1) (L.drop 1) := by
  unfold Ns at h ⊢
  rw [hL] at h
  have hsl := sl_sliced (L := 1) (H := q + 1) h (by omega) (Nat.le_refl _)
  rw [List.length_drop, hL, List.map_drop]
  rw [Nat.mul_one, Nat.mul_one, List.take_of_length_le (by rw [List.length_drop, List.length_map, hL]; omega)] at hsl
  exact hsl
set_option maxHeartbeats 4000000 in
set_option maxRecDepth 100000 in
theorem rcopy_any (B mb bh : Nat) (s : Hd) (n : Int) (mn vl : Value) (w : World) (h : RAt B mb bh s mn vl w) (hwl : WfI s.left) (hnw : n ≤ 9223372036854775807) (hnl : s.next.length + s.left.length ≤ 900) : Calls Try.prog 38 #[.pointer (some ⟨mb, 0, none⟩), .int .i64 n] w (RPost B mb vl (.tuple #[.int .i64 (cpH s n).1.1, .int .i64 (cpH s n).1.2]) (cpH s n).2 w) := by
  have HP := Lib.hid h
  obtain ⟨R, hR⟩ : ∃ R, cpH s n = R := ⟨_, rfl⟩
  have HR := Lib.hid hR
  rw [hR]
  have HWL := Lib.hid hwl
  obtain ⟨⟨d0, d1, d2, d3, d4, d5⟩, -⟩ := bx6 h.box
  obtain ⟨m, hm⟩ : ∃ n, s.left.length = n := ⟨_, rfl⟩
  have HM := Lib.hid hm
  rw [hm] at hnl
  have HNL := Lib.hid hnl
  clear h hR hm hwl
  by_cases hneg : n < 0
  · have HE : Hid (R = ((0, 1), s)) := Lib.hid (by rw [← HR.out]; exact if_pos hneg)
    go_enter Try.func38, Try.ntmps38
    go_wp2_with fail
    go_ret2
    rw [HE.out]
    exact rp_still HP.out (Below.refl _ _)
  by_cases ht : s.t.toList = []
  · have HE : Hid (R = ((0, 11), s)) := Lib.hid (by rw [← HR.out]; unfold cpH; rw [if_neg hneg, if_pos ht])
    have t1 : s.t.toList.isEmpty = true := (emp_iff _).1 ht
    go_enter Try.func38, Try.ntmps38
    go_wp2_with fail
    go_ret2
    rw [HE.out]
    exact rp_still HP.out (Below.refl _ _)
  have t1 : s.t.toList.isEmpty = false := by cases h : s.t.toList.isEmpty with | false => rfl | true => exact absurd ((emp_iff _).2 h) ht
  have HE : Hid (R = ((((s.left.drop n.toNat).length : Int), (0 : Int)), (⟨s.e, s.o, s.t, s.has, foldU s.next (s.left.take n.toNat), s.left.drop n.toNat⟩ : Hd))) := Lib.hid (by rw [← HR.out]; unfold cpH; rw [if_neg hneg, if_neg ht])
  obtain ⟨bn, rfl, hne, hBn, -⟩ := (HP.out.nxt.resolve_left (fun h => ht h.1)).2
  have HT := Lib.hid ht
  have hn0 : 0 ≤ n := by omega
  have HNE := Lib.hid (And.intro hne hBn)
  clear ht hneg
  go_enter Try.func38, Try.ntmps38
  go_wp2_with fail
  clear d0 d1 d2 d3 d4 d5
  go_loopw [1] (fun x wx => CpRel B mb bh bn s n vl m w x wx) (fun x _ => (intOf x).toNat)
  case atStart => exact ⟨0, vl, Nat.zero_le _, hn0, by simp, HP.out, Gt.of_below (Below.refl _ _) HP.out.low.2.2⟩
  case round =>
    obtain ⟨j, vl', hj, hjn, rfl, hpj, hgj⟩ := hrel
    have HPJ := Lib.hid hpj
    have HGJ := Lib.hid hgj
    obtain ⟨⟨d0, d1, d2, d3, d4, d5⟩, ⟨f0, f1, f2, f3, f4, f5⟩⟩ := bx6 hpj.box
    have hlf := Sl.shape hpj.lft
    dsimp only at hlf
    rw [List.length_drop, HM.out] at hlf
    obtain ⟨lo, lc, rfl, hmc, hlc, -⟩ := hlf
    have hl : Sl wr 1 (.slice lo (m - j) lc) (m - j) ((s.left.drop j).map (Value.int .i64)) := by
      have h1 := hpj.lft
      unfold Ns at h1
      dsimp only at h1
      rwa [List.length_drop, HM.out] at h1
    clear hpj hgj
    have hw1 : IntKind.i64.wrap (n - j - 1) = n - j - 1 := IntWalk.i64_in _ (by omega)
    have hw2 : wrap64 (n - j - 1) = n - j - 1 := IntWalk.wrap64_in _ (by omega)
    by_cases hgo : (j : Int) < n ∧ j < m
    · obtain ⟨hg1, hg2⟩ := hgo
      obtain ⟨q, hq⟩ : ∃ q, m - j = q + 1 := ⟨m - j - 1, by omega⟩
      rw [hq] at hl hmc d5 HPJ HGJ
      obtain ⟨x, hx⟩ : ∃ x, s.left[j]? = some x := ⟨_, List.getElem?_eq_getElem (by rw [HM.out]; exact hg2)⟩
      have hx0 : (s.left.drop j)[0]? = some x := by rw [List.getElem?_drop, Nat.add_zero]; exact hx
      obtain ⟨g, off, rfl, c0⟩ := HPJ.out.lft.at hx0
      rw [Nat.add_zero] at c0
      have hxw := HWL.out x (List.mem_of_getElem? hx)
      have HXW := Lib.hid hxw
      have HFT : Hid (foldU s.next (s.left.take (j + 1)) = insU (foldU s.next (s.left.take j)) x) := Lib.hid (foldU_take hx)
      have HOB := Lib.hid (ob_sliced (some ⟨g, off, none⟩) 1 (q + 1) lc 1)
      obtain ⟨D, hown, hmi⟩ := ((HPJ.out.nxt.resolve_left (fun h => HT.out h.1)).2).elim fun b hb => by
        obtain ⟨e, -, -, hm⟩ := hb
        have : bn = b := by simpa using e
        subst this
        exact hm
      have hlen : (foldU s.next (s.left.take j)).length ≤ 900 := by
        have h1 := foldU_le (s.left.take j) s.next
        rw [List.length_take, HM.out] at h1
        have := HNL.out
        omega
      obtain ⟨A, hA⟩ : ∃ A, foldU s.next (s.left.take j) = A := ⟨_, rfl⟩
      dsimp only at hown hmi
      rw [hA] at HPJ HFT hlen hown hmi
      obtain ⟨a, ha⟩ : ∃ a, A.length = a := ⟨_, rfl⟩
      rw [ha] at hown hlen
      have HAA := Lib.hid ha
      have HMI := Lib.hid hmi
      have HOWN := Lib.hid hown
      have i1 : (0 : Int) < n - j := by omega
      have i2 : (0 : Int) < ((q + 1 : Nat) : Int) := by omega
      have i3 : (0 : Int) < (q : Int) + 1 := by omega
      have i4 : (1 : Int) ≤ (q : Int) + 1 := by omega
      clear hx hx0 hl hA ha hmi hxw hown
      go_wp2_with fail
      have hpd := HPJ.out.below ((Below.refl _ wr).drew)
      have HPD := Lib.hid hpd
      have HGD := Lib.hid (HGJ.out.trans (Gt.of_below (v := .slice (some ⟨g, off, none⟩) (q + 1) lc) ((Below.refl _ wr).drew) HPJ.out.low.2.2))
      clear hpd
      obtain ⟨w5, hrun, hown5, hg5⟩ := HOWN.out.drew.update (d := .lit (.bool true)) (ps := []) lawI Try.underlying75 (by unfold maxLen; omega) (keyI HXW.out) (plainElem_bool Try.underlying4 true)
      have hmn5 : Mp w5 bn (insU A x) := Mp.put hown5 HMI.out
      have hmn0 : Mp wr.drew bn A := ⟨D, by rw [HAA.out]; exact HOWN.out.drew, HMI.out⟩
      obtain ⟨hp6, hg6⟩ := HPD.out.putNext HNE.out.1 HNE.out.2 HT.out hmn0 hg5 hmn5
      have HP6 := Lib.hid hp6
      have HG6 := Lib.hid (HGD.out.trans hg6)
      clear hown5 hg5 hmn5 hmn0 hg6 hp6
      have hV : sliced (some ⟨g, off, none⟩) 1 (q + 1) lc 1 = .slice (if lc = 1 then some ⟨g, off, none⟩ else some ⟨g, off + 1, none⟩) q (lc - 1) := by
        unfold sliced
        split <;> simp [addr_add]
      have hdl : (s.left.drop j).length = q + 1 := by rw [List.length_drop, HM.out]; omega
      have hns7 := ns_tail1 HP6.out.lft hdl
      have hob7 := HOB.out
      rw [hV] at hns7 hob7
      have hns8 : Ns w5 (.slice (if lc = 1 then some ⟨g, off, none⟩ else some ⟨g, off + 1, none⟩) q (lc - 1)) (s.left.drop (j + 1)) := by
        have := hns7
        dsimp only at this
        rwa [List.drop_drop] at this
      have b1 : (w5.setCell ⟨mb, 5, none⟩ (.slice (if lc = 1 then some ⟨g, off, none⟩ else some ⟨g, off + 1, none⟩) q (lc - 1))).heap[mb]? = some (.cells #[.int .i64 s.e, .string s.o, .string s.t, .map (some bh), .map (some bn), .slice (if lc = 1 then some ⟨g, off, none⟩ else some ⟨g, off + 1, none⟩) q (lc - 1)] 77 (0, 0)) := by simpa using row_setCell 5 (.slice (if lc = 1 then some ⟨g, off, none⟩ else some ⟨g, off + 1, none⟩) q (lc - 1)) HP6.out.box
      have ob := (OB.refl B mb w5).set HP6.out.low.1 5 (.slice (if lc = 1 then some ⟨g, off, none⟩ else some ⟨g, off + 1, none⟩) q (lc - 1))
      obtain ⟨hp9, hg9⟩ := HP6.out.rebox (s' := ⟨s.e, s.o, s.t, s.has, insU A x, s.left.drop (j + 1)⟩) ob b1 HP6.out.has (Or.inr ⟨HT.out, (HP6.out.nxt.resolve_left (fun h => HT.out h.1)).2⟩) hns8 (fun g' hg' => HP6.out.lfb g' (hob7 g' hg')) HP6.out.low.2.1 (fun g' hg' => Or.inl (hob7 g' hg'))
      have HREL : Hid (CpRel B mb bh bn s n vl m w (.int .i64 (n - j - 1)) (w5.setCell ⟨mb, 5, none⟩ (.slice (if lc = 1 then some ⟨g, off, none⟩ else some ⟨g, off + 1, none⟩) q (lc - 1)))) := Lib.hid
        ⟨j + 1, _, by omega, by omega, by rw [show n - (j : Int) - 1 = n - ((j + 1 : Nat) : Int) from by omega], by rw [HFT.out]; exact hp9, HG6.out.trans hg9⟩
      clear hV hdl hns7 hob7 hns8 b1 ob hp9 hg9
      go_region
      all_goals
        clear d0 d1 d2 d3 d4 d5 f0 f1 f2 f3 f4 f5 hrun
        obtain ⟨⟨d0, d1, d2, d3, d4, d5⟩, ⟨f0, f1, f2, f3, f4, f5⟩⟩ := bx6 HP6.out.box
        go_wp2_with fail
        go_roundw
        case rel => exact HREL.out
        case measure => simp [intOf]; omega
    · have HKN : s.left.take n.toNat = s.left.take j ∧ s.left.drop n.toNat = s.left.drop j := by
        by_cases h1 : (j : Int) < n
        · have hj2 : j = m := by omega
          rw [List.take_of_length_le (by rw [HM.out]; omega), List.take_of_length_le (by rw [HM.out]; omega), List.drop_of_length_le (by rw [HM.out]; omega), List.drop_of_length_le (by rw [HM.out]; omega)]
          exact ⟨rfl, rfl⟩
        · rw [show n.toNat = j from by omega]
          exact ⟨rfl, rfl⟩
      have HFIN : Hid (RPost B mb vl (.tuple #[.int .i64 R.1.1, .int .i64 R.1.2]) R.2 w (.returned (.tuple #[.int .i64 ((m - j : Nat) : Int), .int .i64 0])) wr) := Lib.hid (by
        rw [HE.out, HKN.1, HKN.2]
        exact ⟨by rw [List.length_drop, HM.out], bh, _, _, HPJ.out, HGJ.out⟩)
      by_cases hjn2 : (j : Int) < n
      · have hz : m - j = 0 := by omega
        rw [hz] at d5 HFIN
        have i1 : (0 : Int) < n - j := by omega
        go_wp2_with fail
        go_ret2
        exact HFIN.out
      · have i1 : ¬ (0 : Int) < n - j := by omega
        have i2 : n - (j : Int) ≤ 0 := by omega
        go_wp2_with fail
        go_ret2
        exact HFIN.out
end Go.Proofs.Ytcljeedmiobepaa.Hd
