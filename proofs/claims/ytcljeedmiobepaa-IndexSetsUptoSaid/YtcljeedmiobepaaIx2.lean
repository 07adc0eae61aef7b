/-
  Sets of numbers: the walks of index.set, Or, Not.
-/
import Derived.Test.YtcljeedmiobepaaIx1
namespace Go.Proofs.Ytcljeedmiobepaa.Ix
open Go.RowKit Go.Gh Go.Proofs.Ytcljeedmiobepaa.Rk
set_option linter.unusedVariables false
set_option maxRecDepth 100000 in
theorem setI_any (v : Value) (l : List Int) (w : World) (hv : Ns w v l) (hn : l.length ≤ 1000000000) :
    Calls Try.prog 142 #[v] w fun e w' => ∃ v', e = .returned v' ∧ w'.ownsRow w.heap.size 3 1 v' (setL l).length ((setL l).map (Value.int .i64)) ∧ Below w.heap.size w w' := by
  obtain ⟨ao, c, rfl, -, -, _⟩ := hv.shape
  obtain ⟨n, hm⟩ : ∃ n, l.length = n := ⟨_, rfl⟩
  have HV := Lib.hid hv
  have HM := Lib.hid hm
  rw [hm] at HV hn ⊢
  clear hv hm
  go_enter Try.func142, Try.ntmps142
  go_wp2_with fail
  refine (cloneI_any _ l _ HV.out (by rw [HM.out]; omega)).mono ?_
  rw [HM.out]
  rintro e w1 ⟨v1, rfl, hown1, hb1⟩
  obtain ⟨a1, c1, rfl, -, -, -⟩ := own_shape hown1
  have HO1 := Lib.hid hown1
  have HB1 := Lib.hid hb1
  clear hown1 hb1
  go_wp2_with fail
  refine (SortI.sort_own _ n _ l _ HO1.out (by omega)).mono ?_
  rintro e w2 ⟨rfl, hown2, hg2⟩
  have HO2 := Lib.hid hown2
  have HB2 := Lib.hid (Below.grown HB1.out hg2 HB1.out.size (fun k hk => (HO1.out.lt k hk).1))
  clear hown2 hg2
  go_wp2_with fail
  refine (SortI.compact_own _ n _ _ _ HO2.out (by omega)).mono ?_
  rintro e w3 ⟨v3, rfl, hown3, hg3⟩
  have HB3 := Lib.hid (Below.grown HB2.out hg3 HB2.out.size (fun k hk => (HO2.out.lt k hk).1))
  obtain ⟨p, hp⟩ : ∃ p, (setL l).length = p := ⟨_, rfl⟩
  have hown4 : w3.ownsRow w.heap.size 3 1 v3 p ((setL l).map (Value.int .i64)) := by rw [← hp]; exact hown3
  obtain ⟨a3, c3, rfl, -, -, -⟩ := own_shape hown4
  have HO3 : Hid (w3.ownsRow w.heap.size 3 1 (.slice a3 p c3) (setL l).length ((setL l).map (Value.int .i64))) := Lib.hid (by rw [hp]; exact hown4)
  clear hown3 hown4 hg3 hp
  go_wp2_with fail
  go_ret
  exact ⟨_, rfl, HO3.out, HB3.out⟩
theorem sp_two {w : World} {va vb : Value} {a b : List Int} (ha : Ns w va a) (hb : Ns w vb b) : Sp LvR 1 (w.alloc (.cells #[va, vb] 130)) (.slice (some ⟨w.heap.size, 0, none⟩) 2 2) [a, b] :=
  ⟨[(a, [va]), (b, [vb])], rfl, fun p hp => by
    simp only [List.mem_cons, List.not_mem_nil, or_false] at hp
    rcases hp with rfl | rfl <;> rfl, fun p hp => by
    simp only [List.mem_cons, List.not_mem_nil, or_false] at hp
    rcases hp with rfl | rfl
    · exact ⟨_, rfl, ha.below ((Below.refl _ _).alloc (Nat.le_refl _) _)⟩
    · exact ⟨_, rfl, hb.below ((Below.refl _ _).alloc (Nat.le_refl _) _)⟩, sl_new w [va, vb] rfl (by decide)⟩
set_option maxRecDepth 100000 in
theorem Or_any (va vb : Value) (a b : List Int) (w : World) (ha : Ns w va a) (hb : Ns w vb b) (hla : a.length ≤ 1048576) (hlb : b.length ≤ 1048576) :
    Calls Try.prog 88 #[va, vb] w fun e w' => ∃ v', e = .returned v' ∧ Ns w' v' (setL (a ++ b)) ∧ Below w.heap.size w w' := by
  obtain ⟨ao, c, rfl, -, -, _⟩ := ha.shape
  obtain ⟨bo, d, rfl, -, -, _⟩ := hb.shape
  obtain ⟨n, hm⟩ : ∃ n, a.length = n := ⟨_, rfl⟩
  obtain ⟨m, hm2⟩ : ∃ n, b.length = n := ⟨_, rfl⟩
  rw [hm] at ha ⊢
  rw [hm2] at hb ⊢
  have HSP := Lib.hid (sp_two ha hb)
  have HLA := Lib.hid hla
  have HLB := Lib.hid hlb
  have hbA : Below w.heap.size w (w.alloc (.cells #[.slice ao n c, .slice bo m d] 130)) := (Below.refl _ _).alloc (Nat.le_refl _) _
  have HBA := Lib.hid hbA
  clear ha hb hla hlb hm hm2 hbA
  go_enter Try.func88, Try.ntmps88
  go_wp2_with fail
  refine (concatI_any _ [a, b] _ HSP.out (fun l hl => ?h1) (by simp)).mono ?_
  case h1 =>
    simp only [List.mem_cons, List.not_mem_nil, or_false] at hl
    rcases hl with rfl | rfl
    · exact HLA.out
    · exact HLB.out
  rw [show [a, b].flatten = a ++ b by simp]
  rintro e w1 ⟨v1, rfl, hown1, hb1⟩
  obtain ⟨z, hz⟩ : ∃ z, a ++ b = z := ⟨_, rfl⟩
  have hlz : z.length ≤ 1000000000 := by
    have := HLA.out
    have := HLB.out
    rw [← hz, List.length_append]
    omega
  rw [hz] at hown1
  have HNZ : Hid (Ns w1 v1 z) := Lib.hid (own_sl hown1)
  have HB1 := Lib.hid (HBA.out.trans (hb1.mono HBA.out.size))
  obtain ⟨ln, hln⟩ : ∃ ln, z.length = ln := ⟨_, rfl⟩
  rw [hln] at hown1
  obtain ⟨a1, c1, rfl, -, -, -⟩ := own_shape hown1
  have HLZ := Lib.hid hlz
  have HZ := Lib.hid hz
  clear hown1 hb1 hz hln hlz
  go_wp2_with fail
  refine (setI_any _ z _ HNZ.out HLZ.out).mono ?_
  rintro e w2 ⟨v2, rfl, hown2, hb2⟩
  have HN2 : Hid (Ns w2 v2 (setL z)) := Lib.hid (own_sl hown2)
  have HB2 := Lib.hid (HB1.out.trans (hb2.mono HB1.out.size))
  obtain ⟨p, hp⟩ : ∃ p, (setL z).length = p := ⟨_, rfl⟩
  rw [hp] at hown2
  obtain ⟨a3, c3, rfl, -, -, -⟩ := own_shape hown2
  clear hown2 hb2 hp
  go_wp2_with fail
  go_ret
  exact ⟨_, rfl, by rw [HZ.out]; exact HN2.out, HB2.out⟩
theorem bsI_any (v : Value) (l : List Int) (x : Int) (w : World) (D : Bool) (hv : Ns w v l) (hs : Ris l) (hn : l.length ≤ 1000000000) (hD : decide (x ∈ l) = D) :
    Calls Try.prog 143 #[v, .int .i64 x] w fun e w' => ∃ i, e = .returned (.tuple #[.int .i64 i, .bool D]) ∧ Below w.heap.size w w' := by
  obtain ⟨ao, cap, rfl, h2, h3, h4, h5, h6⟩ := hv
  rcases Nat.eq_zero_or_pos l.length with h0 | h0
  · have hl : l = [] := List.length_eq_zero_iff.1 h0
    subst hl
    have hDF : D = false := by rw [← hD]; simp
    subst hDF
    refine (slices_BinarySearch_int_empty ao cap x w).mono ?_
    rintro e w' ⟨rfl, rfl⟩
    exact ⟨_, rfl, Below.refl _ _⟩
  · obtain ⟨b, off, rfl, hc⟩ := h6 h0
    refine (slices_BinarySearch_int b off l.length cap l x w (Nat.le_refl _) (by omega) (fun j hj => ?_) ?_).mono ?_
    · refine hc j _ ?_
      rw [List.getElem?_map, List.getElem?_eq_getElem hj]
      simp [List.getD_eq_getElem?_getD, List.getElem?_eq_getElem hj]
    · rw [List.take_length]
      exact hs.imp (fun h => Int.le_of_lt h)
    · rintro e w' ⟨rfl, q, rfl⟩
      have hcx : l.contains x = D := by rw [← hD, Bool.eq_iff_iff]; simp
      rw [List.take_length, hcx]
      exact ⟨_, rfl, below_drewN (Below.refl _ _) _⟩
set_option maxHeartbeats 2000000 in
set_option maxRecDepth 100000 in
theorem Not_any (n : Int) (v : Value) (a : List Int) (w : World) (hv : Ns w v a) (hla : a.length ≤ 1000000000) :
    Calls Try.prog 85 #[.int .i64 n, v] w fun e w' => ∃ v', e = .returned (.tuple #[v', .int .i64 (if n < 0 ∨ 1000 < n then 1 else 0)]) ∧ Ns w' v' (if n < 0 ∨ 1000 < n then [] else notTo a n.toNat) ∧ Below w.heap.size w w' := by
  obtain ⟨ao, c, rfl, -, -, _⟩ := hv.shape
  obtain ⟨m, hm⟩ : ∃ n, a.length = n := ⟨_, rfl⟩
  have HV := Lib.hid hv
  have HM := Lib.hid hm
  rw [hm] at HV hla ⊢
  clear hv hm
  by_cases hbad : n < 0 ∨ 1000 < n
  · rw [if_pos hbad, if_pos hbad]
    by_cases h1 : n < 0
    · clear hbad
      go_enter Try.func85, Try.ntmps85
      go_wp2_with fail
      go_ret2
      exact ⟨_, rfl, sl_nil _ _, Below.refl _ _⟩
    · have h2 : 1000 < n := hbad.resolve_left h1
      clear hbad
      go_enter Try.func85, Try.ntmps85
      go_wp2_with fail
      go_ret2
      exact ⟨_, rfl, sl_nil _ _, Below.refl _ _⟩
  rw [if_neg hbad, if_neg hbad]
  obtain ⟨N, hN⟩ : ∃ N : Nat, n = (N : Int) := ⟨n.toNat, by omega⟩
  subst hN
  rw [Int.toNat_natCast]
  have hN1 : N ≤ 1000 := by omega
  have hN0 : ¬ ((N : Int) < 0) := by omega
  have hN2 : ¬ (1000 < (N : Int)) := by omega
  clear hbad
  go_enter Try.func85, Try.ntmps85
  go_wp2_with fail
  refine (setI_any _ a _ HV.out (by rw [HM.out]; exact hla)).mono ?_
  rintro e w2 ⟨v2, rfl, hown2, hb2⟩
  obtain ⟨A, hA⟩ : ∃ A, setL a = A := ⟨_, rfl⟩
  have HNA : Hid (Ns w2 v2 A) := Lib.hid (by rw [← hA]; exact own_sl hown2)
  have HRA : Hid (Ris A) := Lib.hid (by rw [← hA]; exact ris_setL a)
  have HLA : Hid (A.length ≤ 1000000000) := Lib.hid (by have := setL_len a; rw [hA, HM.out] at this; omega)
  have HEQ : Hid (notTo a N = notTo A N) := Lib.hid (notTo_eq (fun x => by rw [← hA, mem_setL]) N)
  have HB2 := Lib.hid hb2
  obtain ⟨p, hp⟩ : ∃ p, A.length = p := ⟨_, rfl⟩
  rw [hA, hp] at hown2
  obtain ⟨a3, c3, rfl, -, -, -⟩ := own_shape hown2
  clear hown2 hb2 hp hA
  go_wp2_with fail
  go_loopw [6, 7, 8, 9, 19] (fun u _ _ _ i wr => ∃ j : Nat, j ≤ N ∧ i = .int .i64 j ∧ Hid (wr.ownsRow w2.heap.size 3 1 u (notTo A j).length ((notTo A j).map (Value.int .i64))) ∧ Below w2.heap.size w2 wr) (fun _ _ _ _ i _ => N - (intOf i).toNat)
  case atStart => exact ⟨0, Nat.zero_le _, rfl, Lib.hid (World.ownsRow_nil _ _ _ _), Below.refl _ _⟩
  case round =>
    obtain ⟨j, hj, rfl, HO, hbr⟩ := hrel
    obtain ⟨r, hr⟩ : ∃ r, (notTo A j).length = r := ⟨_, rfl⟩
    have hown := HO.out
    rw [hr] at hown
    have hrj : r ≤ j := by rw [← hr]; exact notTo_len A j
    have HR := Lib.hid hr
    obtain ⟨uo, uc, rfl, huc, -, -⟩ := own_shape hown
    clear hr
    by_cases hlt : j < N
    · have hlt' : (j : Int) < (N : Int) := by omega
      obtain ⟨D, hD⟩ : ∃ D, decide ((j : Int) ∈ A) = D := ⟨_, rfl⟩
      have HD := Lib.hid hD
      have HOW := Lib.hid hown
      clear hD hown HO
      go_wp2_with fail
      refine (bsI_any _ A j _ D (HNA.out.below hbr) HRA.out HLA.out HD.out).mono ?_
      rintro e w4 ⟨i4, rfl, hb4⟩
      have hown4 := own_below HOW.out hb4
      have hb5 := hbr.trans (hb4.mono hbr.size)
      clear hb4
      cases D with
      | true =>
        have HN2 : Hid (notTo A (j + 1) = notTo A j) := Lib.hid (by rw [notTo, if_pos (of_decide_eq_true HD.out)])
        have HO4 := Lib.hid hown4
        clear hown4
        go_wp2_with fail
        go_roundw
        case rel => exact ⟨j + 1, by omega, by go_num, by rw [HN2.out, HR.out]; exact HO4, hb5⟩
        case measure => simp [intOf]; omega
      | false =>
        have HN2 : Hid (notTo A (j + 1) = notTo A j ++ [(j : Int)]) := Lib.hid (by rw [notTo, if_neg (of_decide_eq_false HD.out)])
        go_wp2_with (at_builtin; refine append1 [.int .i64 j] SortI.elInt rfl _ _ rfl hown4 hb5 hb5.size rfl rfl rfl (one_all _ rfl) ?c4 ?c5 ?_)
        case c4 => omega
        case c5 => omega
        intro v7 w7 hown7 hbel7 _
        have HO7 : Hid (w7.ownsRow w2.heap.size 3 1 v7 (notTo A (j + 1)).length ((notTo A (j + 1)).map (Value.int .i64))) := Lib.hid (by
          rw [HN2.out, List.length_append, List.length_singleton, HR.out, List.map_append]
          exact hown7)
        clear hown7 hown4
        go_wp2_with fail
        go_roundw
        case rel => exact ⟨j + 1, by omega, by go_num, HO7, hbel7⟩
        case measure => simp [intOf]; omega
    · have hjN : j = N := by omega
      subst hjN
      have HF : Hid (Ns wr (.slice uo r uc) (notTo A j)) := Lib.hid (by unfold Ns; rw [HR.out]; exact own_sl hown)
      have HBF := Lib.hid (HB2.out.trans (hbr.mono HB2.out.size))
      clear hown HO
      go_wp2_with fail
      go_ret2
      exact ⟨_, rfl, by rw [HEQ.out]; exact HF.out, HBF.out⟩
end Go.Proofs.Ytcljeedmiobepaa.Ix
