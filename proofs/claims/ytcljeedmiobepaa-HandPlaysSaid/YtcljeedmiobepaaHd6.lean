/-
  A shard: the walk of hand's Copy.
-/
import Derived.Test.YtcljeedmiobepaaHd5
namespace Go.Proofs.Ytcljeedmiobepaa.Hd
open Go.RowKit Go.Gh Go.Proofs.Ytcljeedmiobepaa.Rk
set_option linter.unusedVariables false
set_option maxHeartbeats 4000000 in
set_option maxRecDepth 100000 in
theorem pcopy_any (B hb : Nat) (s : Hd) (n : Int) (vh vn vl : Value) (w : World) (h : PAt B hb s vh vn vl w) (hrn : Ris s.next) (hnl : s.next.length + s.left.length ≤ 900) : Calls Try.prog 37 #[.pointer (some ⟨hb, 0, none⟩), .int .i64 n] w (PPost B hb vh vn (.tuple #[.int .i64 (cpH s n).1.1, .int .i64 (cpH s n).1.2]) (cpH s n).2 w) := by
  have HP := Lib.hid h
  obtain ⟨R, hR⟩ : ∃ R, cpH s n = R := ⟨_, rfl⟩
  have HR := Lib.hid hR
  rw [hR]
  have HRN := Lib.hid hrn
  obtain ⟨⟨d0, d1, d2, d3, d4, d5⟩, -⟩ := bx6 h.box
  obtain ⟨m, hm⟩ : ∃ n, s.left.length = n := ⟨_, rfl⟩
  have HM := Lib.hid hm
  have hlf := Sl.shape h.lft
  rw [hm] at hlf hnl
  obtain ⟨lo, lc, rfl, hmc, hlc, -⟩ := hlf
  have HNL := Lib.hid hnl
  clear h hR hm hrn
  by_cases hneg : n < 0
  · have HE : Hid (R = ((0, 1), s)) := Lib.hid (by rw [← HR.out]; exact if_pos hneg)
    go_enter Try.func37, Try.ntmps37
    go_wp2_with fail
    go_ret2
    rw [HE.out]
    exact pp_still HP.out (Below.refl _ _)
  by_cases ht : s.t.toList = []
  · have HE : Hid (R = ((0, 11), s)) := Lib.hid (by rw [← HR.out]; unfold cpH; rw [if_neg hneg, if_pos ht])
    have t1 : s.t.toList.isEmpty = true := (emp_iff _).1 ht
    go_enter Try.func37, Try.ntmps37
    go_wp2_with fail
    go_ret2
    rw [HE.out]
    exact pp_still HP.out (Below.refl _ _)
  have t1 : s.t.toList.isEmpty = false := by cases h : s.t.toList.isEmpty with | false => rfl | true => exact absurd ((emp_iff _).2 h) ht
  have HE : Hid (R = ((((s.left.drop n.toNat).length : Int), (0 : Int)), (⟨s.e, s.o, s.t, s.has, foldU s.next (s.left.take n.toNat), s.left.drop n.toNat⟩ : Hd))) := Lib.hid (by rw [← HR.out]; unfold cpH; rw [if_neg hneg, if_neg ht])
  obtain ⟨k, hk⟩ : ∃ k : Nat, min n.toNat m = k := ⟨_, rfl⟩
  have hkm : k ≤ m := by omega
  have HKN : Hid (s.left.take n.toNat = s.left.take k ∧ s.left.drop n.toNat = s.left.drop k) := Lib.hid (by
    rcases Nat.lt_or_ge n.toNat m with h1 | h1
    · have : n.toNat = k := by omega
      rw [this]; exact ⟨rfl, rfl⟩
    · have : k = m := by omega
      rw [this, List.take_of_length_le (by rw [HM.out]; exact h1), List.take_of_length_le (by rw [HM.out]; exact Nat.le_refl _), List.drop_of_length_le (by rw [HM.out]; exact h1), List.drop_of_length_le (by rw [HM.out]; exact Nat.le_refl _)]
      exact ⟨rfl, rfl⟩)
  have hmin : (if (m : Int) < n then (m : Int) else n) = (k : Int) := by split <;> omega
  have hmin2 : (if n < (m : Int) then n else (m : Int)) = (k : Int) := by split <;> omega
  have hmin3 : (if (m : Int) ≤ n then (m : Int) else n) = (k : Int) := by split <;> omega
  have hmin4 : min n (m : Int) = (k : Int) := by omega
  have hk1 : (0 : Int) ≤ (k : Int) := by omega
  have hk2 : (k : Int) ≤ (m : Int) := by omega
  have hk3 : (k : Int) ≤ (lc : Int) := by omega
  clear hneg ht hk
  go_enter Try.func37, Try.ntmps37
  go_wp2_with fail
  clear hmin hmin2 hmin3 hmin4 d0 d1 d2 d3 d4 d5
  go_loopw [7, 31] (fun _ i wx => ∃ (j : Nat) (vn' : Value), j ≤ k ∧ i = .int .i64 j ∧ Hid (PAt B hb ⟨s.e, s.o, s.t, s.has, foldU s.next (s.left.take j), s.left⟩ vh vn' (.slice lo m lc) wx) ∧ Hid (Ft B hb vh vn vh vn' w wx)) (fun _ i _ => k - (intOf i).toNat)
  case atStart => exact ⟨0, vn, Nat.zero_le _, rfl, Lib.hid HP.out, Lib.hid (Ft.of_below (Below.refl _ _) HP.out.low.2)⟩
  case round =>
    obtain ⟨j, vn', hj, rfl, HPJ, HFJ⟩ := hrel
    obtain ⟨⟨d0, d1, d2, d3, d4, d5⟩, -⟩ := bx6 HPJ.out.box
    by_cases hlt : j < k
    · obtain ⟨x, hx⟩ : ∃ x, s.left[j]? = some x := ⟨_, List.getElem?_eq_getElem (by rw [HM.out]; omega)⟩
      obtain ⟨g, off, rfl, c0⟩ := HPJ.out.lft.at hx
      have HFT : Hid (foldU s.next (s.left.take (j + 1)) = insU (foldU s.next (s.left.take j)) x) := Lib.hid (foldU_take hx)
      have hlen : (foldU s.next (s.left.take j)).length ≤ 900 := by
        have h1 := foldU_le (s.left.take j) s.next
        rw [List.length_take, HM.out] at h1
        have := HNL.out
        omega
      have HRJ := Lib.hid (ris_foldU (m := s.left.take j) HRN.out)
      obtain ⟨A, hA⟩ : ∃ A, foldU s.next (s.left.take j) = A := ⟨_, rfl⟩
      rw [hA] at HPJ HFT hlen HRJ
      have hj1 : (0 : Int) ≤ (j : Int) := by omega
      have hj2 : (j : Int) < (k : Int) := by omega
      clear hx hA
      go_wp2_with fail
      refine (with_any B _ A x _ HPJ.out.nxt HRJ.out (by omega) HPJ.out.low.2).mono ?_
      rintro e w4 ⟨v4, rfl, hown4, hf4⟩
      obtain ⟨hp5, hft5⟩ := HPJ.out.putNext hf4 hown4
      have hbx4 := (hf4.keep hb HPJ.out.hlt (ne_box HPJ.out HPJ.out.nxt)).trans HPJ.out.box
      rw [← HFT.out] at hp5
      obtain ⟨q4, hq4⟩ : ∃ q, (insU A x).length = q := ⟨_, rfl⟩
      have hsh := own_shape hown4
      rw [hq4] at hsh
      obtain ⟨o4, c4, rfl, -, -, -⟩ := hsh
      have HP5 := Lib.hid hp5
      have HF5 := Lib.hid (HFJ.out.trans hft5)
      clear d0 d1 d2 d3 d4 d5 hown4 hf4 hp5 hft5 c0
      obtain ⟨⟨d0, d1, d2, d3, d4, d5⟩, ⟨f0, f1, f2, f3, f4, f5⟩⟩ := bx6 hbx4
      clear hbx4
      go_wp2_with fail
      go_roundw
      case rel => exact ⟨j + 1, _, by omega, by go_num, HP5, HF5⟩
      case measure => simp [intOf]; omega
    · have hjk : j = k := by omega
      subst hjk
      obtain ⟨-, ⟨f0, f1, f2, f3, f4, f5⟩⟩ := bx6 HPJ.out.box
      have hl : Sl wr 1 (.slice lo m lc) m (s.left.map (Value.int .i64)) := by
        have h1 := HPJ.out.lft
        unfold Ns at h1
        dsimp only at h1
        rwa [HM.out] at h1
      have hsl := sl_sliced (L := j) (H := m) hl hkm (Nat.le_refl _)
      have HNS : Hid (Ns wr (sliced lo j m lc 1) (s.left.drop j)) := Lib.hid (by
        unfold Ns
        rw [List.length_drop, HM.out, List.map_drop]
        rw [Nat.mul_one, Nat.mul_one, List.take_of_length_le (by rw [List.length_drop, List.length_map, HM.out]; exact Nat.le_refl _)] at hsl
        exact hsl)
      have HOB : Hid (∀ g, (sliced lo j m lc 1).ownBlock = some g → (Value.slice lo m lc).ownBlock = some g) := Lib.hid (fun g hg => by
        unfold sliced at hg
        cases lo with
        | none => split at hg <;> simp [Value.ownBlock] at hg
        | some a =>
          split at hg
          · simpa [Value.ownBlock] using hg
          · have hk : ∀ k, (a.add k).block = a.block := fun k => by
              unfold Addr.add
              split <;> rfl
            simp only [Option.map_some, Value.ownBlock, Option.some.injEq] at hg ⊢
            rw [hk] at hg
            exact hg)
      clear hl hsl
      have hfin : ∀ V, sliced lo j m lc 1 = V → Hid (PPost B hb vh vn (.tuple #[.int .i64 R.1.1, .int .i64 R.1.2]) R.2 w (.returned (.tuple #[.int .i64 ((m - j : Nat) : Int), .int .i64 0])) (wr.setCell ⟨hb, 5, none⟩ V)) := fun V hV => Lib.hid (by
        have hns := HNS.out
        have hob := HOB.out
        rw [hV] at hns hob
        have b1 : (wr.setCell ⟨hb, 5, none⟩ V).heap[hb]? = some (.cells #[.int .i64 s.e, .string s.o, .string s.t, vh, vn', V] 168 (0, 0)) := by simpa using row_setCell 5 V HPJ.out.box
        have ob := (OB.refl B hb wr).set HPJ.out.low.1 5 V
        obtain ⟨hp9, hf9⟩ := HPJ.out.rebox (s' := ⟨s.e, s.o, s.t, s.has, foldU s.next (s.left.take j), s.left.drop j⟩) ob.sz ob.keep ob.bel b1 HPJ.out.has HPJ.out.nxt hns (fun g hg => HPJ.out.lfb g (hob g hg)) HPJ.out.ap (fun g hg => hg)
        rw [HE.out, HKN.out.1, HKN.out.2]
        refine ⟨by rw [List.length_drop, HM.out], vh, vn', V, hp9, HFJ.out.trans hf9⟩)
      by_cases hcap : lc = j
      · have HF := hfin (.slice lo (m - j) 0) (by unfold sliced; rw [if_pos hcap, hcap, Nat.sub_self])
        clear hfin HNS HOB
        go_wp2_with fail
        go_ret2
        exact HF.out
      · have HF := hfin (.slice (lo.map fun x => x.add j) (m - j) (lc - j)) (by unfold sliced; rw [if_neg hcap, Nat.mul_one])
        clear hfin HNS HOB
        go_wp2_with fail
        go_ret2
        exact HF.out
end Go.Proofs.Ytcljeedmiobepaa.Hd
