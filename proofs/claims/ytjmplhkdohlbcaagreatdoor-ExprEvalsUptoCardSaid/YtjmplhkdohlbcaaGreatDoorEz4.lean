/-
  Labels: the walks of name and GoodName.
-/
import Derived.Test.YtjmplhkdohlbcaaGreatDoorEz1
import Derived.Test.YtjmplhkdohlbcaaGreatDoorEz2
import Derived.Test.YtjmplhkdohlbcaaGreatDoorEz3
import Derived.Test.YtjmplhkdohlbcaaGreatDoorProg
import Derived.Laws.Cover1
import Derived.Deep.QuietTactic
import Derived.BigQuiet
import Derived.Laws.Strings3
import Derived.Tactics
import Derived.Tactics2
import Derived.Defers
import Derived.Laws.Pointers
import Derived.Laws.LoneSync
import Derived.RegionTactic
import Derived.RegionCalls
import Derived.ChangeAlike
import Derived.Deep.WholeRow
namespace Go.Proofs.YtjmplhkdohlbcaaGreatDoor.Lab
open Go.RowKit Go.Gh
set_option linter.unusedVariables false
set_option linter.unusedSimpArgs false
theorem tl_ne {l : By} (h : l ≠ []) : (mkS l).toList.isEmpty = false ∧ ¬ (mkS l).toList = [] := by
  rw [mkS_list]
  exact ⟨by rw [List.isEmpty_eq_false_iff]; exact h, h⟩
theorem nameOk_cons (c : UInt8) (r : By) : nameOk (c :: r) = (decide (r.length + 1 ≤ 20) && !digB c && nmB c && r.all nmB) := rfl
/-- A name's byte, as a number. -/
theorem nmB_nat (d : UInt8) : nmB d = decide ((97 ≤ d.toNat ∧ d.toNat ≤ 122) ∨ (48 ≤ d.toNat ∧ d.toNat ≤ 57) ∨ d.toNat = 95) := by
  rw [Bool.eq_iff_iff]
  unfold nmB
  simp only [Bool.or_eq_true, Bool.and_eq_true, decide_eq_true_eq, UInt8.le_iff_toNat_le, ← UInt8.toNat_inj]
  have e1 : (97 : UInt8).toNat = 97 := rfl
  have e2 : (122 : UInt8).toNat = 122 := rfl
  have e3 : (48 : UInt8).toNat = 48 := rfl
  have e4 : (57 : UInt8).toNat = 57 := rfl
  have e5 : (95 : UInt8).toNat = 95 := rfl
  rw [e1, e2, e3, e4, e5]
  omega
theorem nmB_parts (c : UInt8) : nmB c = ((decide (97 ≤ c) && decide (c ≤ 122)) || (decide (48 ≤ c) && decide (c ≤ 57)) || decide (c = 95)) := rfl
set_option maxHeartbeats 4000000 in
set_option maxRecDepth 100000 in
theorem name_any (l : By) (w : World) (hsz : l.length ≤ 140737488355328) : Calls Tryz.prog 39 #[.string (mkS l)] w fun e w' => e = .returned (.bool (nameOk l)) ∧ Below w.heap.size w w' := by
  have hconv : ∀ W', (convert 9 117 (.string (mkS l))).run Tryz.prog W' = .ok (.slice (some ⟨W'.heap.size, 0, none⟩) (mkS l).size (grownCap W' (mkS l).size 0 5)) (Lib.bytesWorld W' 5 (mkS l)) := fun W' => Lib.run_convert_string_bytes W' 9 117 5 (mkS l) Tryz.underlying9 Tryz.underlying117 Tryz.underlying5
  have hml := mkS_size l
  obtain ⟨F, hF⟩ : ∃ F, nameOk l = F := ⟨_, rfl⟩
  rw [hF]
  have HF := Lib.hid hF
  clear hF
  cases l with
  | nil =>
    have e1 := mkS_list []
    obtain rfl : F = false := HF.out.symm
    go_enter Tryz.func39, Tryz.ntmps39
    go_wp2_with fail
    go_ret
    exact ⟨rfl, Below.refl _ _⟩
  | cons c r =>
    obtain ⟨e1, e2⟩ := tl_ne (l := c :: r) (by simp)
    have HG := Lib.hid (mkS_get (c :: r))
    have hbv := Lib.hid (fun W' => convS_below W' 5 (mkS (c :: r)))
    have hsl := Lib.hid (fun W' => convS_sl W' 5 (mkS (c :: r)) (by rw [mkS_size]; exact hsz))
    rw [kbS_mk] at hsl
    generalize mkS (c :: r) = S at e1 e2 hml hconv HG hbv hsl ⊢
    have hl1 : S.size = r.length + 1 := by rw [hml]; rfl
    obtain ⟨n, hn⟩ : ∃ n, S.size = n := ⟨_, rfl⟩
    rw [hn] at hl1
    simp only [hn] at hconv hsl
    have HL1 := Lib.hid hl1
    have hn0 : 0 < n := by omega
    clear hml
    by_cases h20 : 20 < n
    · have HN : Hid (F = false) := Lib.hid (by rw [← HF.out, nameOk_cons, decide_eq_false (by omega)]; rfl)
      clear hl1
      go_enter Tryz.func39, Tryz.ntmps39
      go_wp2_with fail
      go_ret
      exact ⟨by rw [HN.out]; rfl, Below.refl _ _⟩
    have hn20 : n ≤ 20 := by omega
    clear hl1
    have h0 : 0 < S.size := by omega
    have hg : (S[0]'h0) = c := HG.out 0 h0 (by simp)
    obtain ⟨D, hD⟩ : ∃ D, digB c = D := ⟨_, rfl⟩
    have HD := Lib.hid hD
    have hdd : D = (decide (48 ≤ c) && decide (c ≤ 57)) := by rw [← hD]; rfl
    clear hD
    go_enter Tryz.func39, Tryz.ntmps39
    go_upto_region 1 with (fail)
    go_cut [21] (fun t wx => t = .bool D ∧ wx = w)
    case first =>
      by_cases g1 : 48 ≤ c
      · by_cases g2 : c ≤ 57
        · obtain rfl : D = true := by rw [hdd, decide_eq_true g1, decide_eq_true g2]; rfl
          have q1 : decide ((c.toNat : Int) ≥ 48) = true := (u8_le 48 c).trans (decide_eq_true g1)
          have q2 : decide ((c.toNat : Int) ≤ 57) = true := (u8_le c 57).trans (decide_eq_true g2)
          clear g1 g2 hdd
          go_wp2_with fail
          go_meet
          exact ⟨by first | rfl | rw [decide_eq_false (by omega : ¬ (20 : Int) < (n : Int))], rfl⟩
        · obtain rfl : D = false := by rw [hdd, decide_eq_true g1, decide_eq_false g2]; rfl
          have q1 : decide ((c.toNat : Int) ≥ 48) = true := (u8_le 48 c).trans (decide_eq_true g1)
          have q2 : decide ((c.toNat : Int) ≤ 57) = false := (u8_le c 57).trans (decide_eq_false g2)
          clear g1 g2 hdd
          go_wp2_with fail
          go_meet
          exact ⟨by first | rfl | rw [decide_eq_false (by omega : ¬ (20 : Int) < (n : Int))], rfl⟩
      · obtain rfl : D = false := by rw [hdd, decide_eq_false g1]; rfl
        have q1 : decide ((c.toNat : Int) ≥ 48) = false := (u8_le 48 c).trans (decide_eq_false g1)
        clear g1 hdd
        go_wp2_with fail
        go_meet
        exact ⟨by first | rfl | rw [decide_eq_false (by omega : ¬ (20 : Int) < (n : Int))], rfl⟩
    obtain ⟨rfl, hwc⟩ := hcut
    have hwc := hwc.symm
    subst hwc
    clear hdd
    cases D with
    | true =>
      have HN : Hid (F = false) := Lib.hid (by rw [← HF.out, nameOk_cons, HD.out]; simp)
      go_wp2_with fail
      go_ret
      exact ⟨by rw [HN.out]; rfl, Below.refl _ _⟩
    | false =>
      have HN : Hid (F = (c :: r).all nmB) := Lib.hid (by rw [← HF.out, nameOk_cons, HD.out, decide_eq_true (by have := HL1.out; omega)]; rfl)
      go_wp2_with fail
      obtain ⟨W1, hW1⟩ : ∃ W1, W1 = Lib.bytesWorld w 5 S := ⟨_, rfl⟩
      rw [← hW1]
      have HSL : Hid (Sl W1 1 (.slice (some ⟨w.heap.size, 0, none⟩) n (grownCap w n 0 5)) n (((c :: r).map fun b => (b.toNat : Int)).map (Value.int .u8))) := Lib.hid (by rw [hW1]; exact hsl.out w)
      have HB1 : Hid (Below w.heap.size w W1) := Lib.hid (by rw [hW1]; exact hbv.out w)
      have HLL : Hid ((c :: r).length = n) := Lib.hid (by rw [HL1.out]; rfl)
      clear hW1 hg h0 e1 e2 hconv
      generalize c :: r = l at *
      go_loopw [25] (fun i wr => ∃ k : Nat, k ≤ n ∧ i = .int .i64 k ∧ Hid ((l.take k).all nmB = true) ∧ wr = W1) (fun i _ => n - (intOf i).toNat)
      case atStart => exact ⟨0, Nat.zero_le _, rfl, Lib.hid rfl, rfl⟩
      case round =>
        obtain ⟨k, hk, rfl, HT, hwe⟩ := hrel
        have hwe := hwe.symm
        subst hwe
        by_cases hlt : k < n
        case neg =>
          obtain rfl : k = n := by omega
          have HR : Hid (F = true) := Lib.hid (by
            rw [HN.out]
            have := HT.out
            rwa [List.take_of_length_le (Nat.le_of_eq HLL.out)] at this)
          go_wp2_with fail
          go_ret
          exact ⟨by rw [HR.out]; rfl, HB1.out⟩
        obtain ⟨d, hd⟩ : ∃ d, l[k]? = some d := ⟨_, List.getElem?_eq_getElem (by rw [HLL.out]; exact hlt)⟩
        obtain ⟨b, off, e0, hcell⟩ := Sl.int HSL.out hlt
        injection e0 with e0
        injection e0 with e1 e2
        subst e1
        subst e2
        rw [Nat.zero_add] at hcell
        have hdm : ((l.map fun b => (b.toNat : Int)).getD k 0) = (d.toNat : Int) := by
          rw [List.getD_eq_getElem?_getD, List.getElem?_map, hd]
          rfl
        rw [hdm] at hcell
        have HNB := Lib.hid (nmB_nat d)
        have HTK : Hid ((l.take (k + 1)).all nmB = nmB d) := Lib.hid (by
          obtain ⟨h1, h2⟩ := List.getElem?_eq_some_iff.1 hd
          rw [List.take_succ_eq_append_getElem h1, h2, List.all_append, HT.out]
          simp)
        have HMEM := Lib.hid (List.mem_of_getElem? hd)
        obtain ⟨m, hm⟩ : ∃ m, d.toNat = m := ⟨_, rfl⟩
        rw [hm] at hcell HNB
        obtain ⟨C, hC⟩ : ∃ C, nmB d = C := ⟨_, rfl⟩
        have HCD := Lib.hid hC
        rw [hC] at HNB HTK
        have hc2 := HNB.out
        clear hdm hm hd hC
        go_upto_region 6 with (fail)
        go_cut [46] (fun t wx => t = .bool (!C) ∧ wx = W1)
        case first =>
          by_cases g1 : m < 97
          · by_cases g2 : m < 48
            · obtain rfl : C = false := by rw [hc2]; exact decide_eq_false (by omega)
              have g3 : ¬ m = 95 := by omega
              clear hc2
              go_wp2_with fail
              go_meet
              exact ⟨by simp; omega, rfl⟩
            · by_cases g3 : 57 < m
              · by_cases g4 : m = 95
                · obtain rfl : C = true := by rw [hc2]; exact decide_eq_true (by omega)
                  have q4 : ((m : Int) != 95) = false := by rw [g4]; rfl
                  clear hc2 g4
                  go_wp2_with fail
                  go_meet
                  exact ⟨rfl, rfl⟩
                · obtain rfl : C = false := by rw [hc2]; exact decide_eq_false (by omega)
                  clear hc2
                  go_wp2_with fail
                  go_meet
                  exact ⟨by simp; omega, rfl⟩
              · obtain rfl : C = true := by rw [hc2]; exact decide_eq_true (by omega)
                clear hc2
                go_wp2_with fail
                go_meet
                exact ⟨by simp, rfl⟩
          · by_cases g2 : 122 < m
            · obtain rfl : C = false := by rw [hc2]; exact decide_eq_false (by omega)
              have g3 : ¬ m = 95 := by omega
              have g4 : ¬ m < 48 := by omega
              have g5 : 57 < m := by omega
              clear hc2
              go_wp2_with fail
              go_meet
              exact ⟨by simp; omega, rfl⟩
            · obtain rfl : C = true := by rw [hc2]; exact decide_eq_true (by omega)
              clear hc2
              go_wp2_with fail
              go_meet
              exact ⟨by simp, rfl⟩
        obtain ⟨rfl, hwc⟩ := hcut
        have hwc := hwc.symm
        subst hwc
        clear hc2
        cases C with
        | true =>
          go_wp2_with fail
          go_roundw
          case rel => exact ⟨k + 1, by omega, by go_num, HTK, by trivial⟩
          case measure => simp [intOf]; omega
        | false =>
          have HR : Hid (F = false) := Lib.hid (by
            rw [HN.out, List.all_eq_false]
            exact ⟨d, HMEM.out, by rw [HCD.out]; simp⟩)
          go_wp2_with fail
          go_ret
          exact ⟨by rw [HR.out]; rfl, HB1.out⟩
end Go.Proofs.YtjmplhkdohlbcaaGreatDoor.Lab
/-
  Labels: the walk of GoodName.
-/
namespace Go.Proofs.YtjmplhkdohlbcaaGreatDoor.Lab
open Go.RowKit Go.Gh
set_option linter.unusedVariables false
set_option linter.unusedSimpArgs false
/-- May this byte stand there? -/
def gdB (i : Nat) (c : UInt8) : Prop := (97 ≤ c.toNat ∧ c.toNat ≤ 122) ∨ c.toNat = 95 ∨ (48 ≤ c.toNat ∧ c.toNat ≤ 57 ∧ i ≠ 0)
def gdAt (l : By) (k : Nat) : Prop := ∀ (i : Nat) (c : UInt8), i < k → l[i]? = some c → gdB i c
theorem gd_nat_yes {k : Nat} {c : UInt8} (h : (97 ≤ c.toNat ∧ c.toNat ≤ 122) ∨ c.toNat = 95 ∨ (48 ≤ c.toNat ∧ c.toNat ≤ 57 ∧ k ≠ 0)) : gdB k c := h
theorem gd_nat_no {k : Nat} {c : UInt8} (h : ¬ ((97 ≤ c.toNat ∧ c.toNat ≤ 122) ∨ c.toNat = 95 ∨ (48 ≤ c.toNat ∧ c.toNat ≤ 57 ∧ k ≠ 0))) : ¬ gdB k c := h
theorem gdAt_succ {l : By} {k : Nat} {c : UInt8} (h : gdAt l k) (hc : l[k]? = some c) (h2 : gdB k c) : gdAt l (k + 1) := fun i d hi hd => by
  rcases Nat.lt_or_ge i k with h' | h'
  · exact h i d h' hd
  · obtain rfl : i = k := by omega
    rw [hc] at hd
    injection hd with hd
    rw [← hd]; exact h2
theorem digB_nat (d : UInt8) : digB d = decide (48 ≤ d.toNat ∧ d.toNat ≤ 57) := by
  rw [Bool.eq_iff_iff]
  unfold digB
  simp only [Bool.and_eq_true, decide_eq_true_eq, UInt8.le_iff_toNat_le]
  have e3 : (48 : UInt8).toNat = 48 := rfl
  have e4 : (57 : UInt8).toNat = 57 := rfl
  rw [e3, e4]
theorem gd_yes {l : By} (h : gdAt l l.length) (h1 : 0 < l.length) (h2 : l.length ≤ 20) : nameOk l = true := by
  match l, h1 with
  | c :: r, _ =>
    have hc := h 0 c (by simp) rfl
    rw [nameOk_cons]
    simp only [Bool.and_eq_true, decide_eq_true_eq, Bool.not_eq_true', List.all_eq_true]
    refine ⟨⟨⟨by simpa using h2, ?_⟩, ?_⟩, fun d hd => ?_⟩
    · rw [digB_nat, decide_eq_false_iff_not]
      unfold gdB at hc
      omega
    · rw [nmB_nat, decide_eq_true_eq]
      unfold gdB at hc
      omega
    · obtain ⟨i, hi⟩ := List.getElem?_of_mem hd
      have hg := h (i + 1) d (by have := (List.getElem?_eq_some_iff.1 hi).1; simp; omega) (by simpa using hi)
      rw [nmB_nat, decide_eq_true_eq]
      unfold gdB at hg
      omega
theorem gd_no {l : By} {k : Nat} {c : UInt8} (hc : l[k]? = some c) (h : ¬ gdB k c) : nameOk l = false := by
  match l with
  | [] => simp at hc
  | d :: r =>
    rw [nameOk_cons]
    rw [Bool.and_eq_false_iff]
    cases k with
    | zero =>
      have : d = c := by simpa using hc
      subst this
      refine Or.inl ?_
      rw [Bool.and_eq_false_iff]
      by_cases hn : nmB d = true
      · refine Or.inl ?_
        rw [Bool.and_eq_false_iff]
        refine Or.inr ?_
        rw [Bool.not_eq_false', digB_nat, decide_eq_true_eq]
        rw [nmB_nat, decide_eq_true_eq] at hn
        unfold gdB at h
        omega
      · exact Or.inr (by simpa using hn)
    | succ k =>
      refine Or.inr ?_
      rw [List.all_eq_false]
      refine ⟨c, List.mem_of_getElem? (by simpa using hc), ?_⟩
      rw [nmB_nat, decide_eq_true_eq]
      unfold gdB at h
      omega
theorem long_no {l : By} (h : 20 < l.length ∨ l.length = 0) : nameOk l = false := by
  match l with
  | [] => rfl
  | c :: r =>
    rw [nameOk_cons, decide_eq_false (by simp at h; omega)]
    rfl
set_option maxHeartbeats 8000000 in
set_option maxRecDepth 100000 in
theorem goodname_any (l : By) (w : World) (hsz : l.length ≤ 140737488355328) : Calls Tryz.prog 38 #[.string (mkS l)] w fun e w' => e = .returned (.bool (nameOk l)) ∧ Below w.heap.size w w' := by
  obtain ⟨F, hF⟩ : ∃ F, nameOk l = F := ⟨_, rfl⟩
  rw [hF]
  have HF := Lib.hid hF
  clear hF
  have hml := mkS_size l
  have HG := Lib.hid (mkS_get l)
  generalize mkS l = S at hml HG ⊢
  obtain ⟨n, hn⟩ : ∃ n, S.size = n := ⟨_, rfl⟩
  rw [hn] at hml
  have HL := Lib.hid hml.symm
  have hn63 : n ≤ 140737488355328 := by omega
  clear hml
  go_enter Tryz.func38, Tryz.ntmps38
  go_wp2_with fail
  go_loopw [8] (fun i wr => ∃ k : Nat, k ≤ n ∧ i = .int .i64 k ∧ Hid (gdAt l k) ∧ wr = w) (fun i _ => n - (intOf i).toNat)
  case atStart => exact ⟨0, Nat.zero_le _, rfl, Lib.hid (fun i c hi => absurd hi (Nat.not_lt_zero _)), rfl⟩
  case round =>
    obtain ⟨k, hk, rfl, HT, hwe⟩ := hrel
    have hwe := hwe.symm
    subst hwe
    by_cases hlt : k < n
    case neg =>
      obtain rfl : k = n := by omega
      by_cases h0 : 0 < k
      · by_cases h20 : k ≤ 20
        · obtain rfl : F = true := by rw [← HF.out]; exact gd_yes (by rw [HL.out]; exact HT.out) (by rw [HL.out]; exact h0) (by rw [HL.out]; exact h20)
          go_wp2_with fail
          go_ret
          exact ⟨by simp; omega, Below.refl _ _⟩
        · obtain rfl : F = false := by rw [← HF.out]; exact long_no (Or.inl (by rw [HL.out]; omega))
          go_wp2_with fail
          go_ret
          exact ⟨by simp; omega, Below.refl _ _⟩
      · obtain rfl : F = false := by rw [← HF.out]; exact long_no (Or.inr (by rw [HL.out]; omega))
        go_wp2_with fail
        go_ret
        exact ⟨rfl, Below.refl _ _⟩
    have hlk : k < l.length := by rw [HL.out]; exact hlt
    have hks : k < S.size := by rw [hn]; exact hlt
    obtain ⟨d, hd⟩ : ∃ d, l[k]? = some d := ⟨_, List.getElem?_eq_getElem hlk⟩
    obtain ⟨m, hm⟩ : ∃ m, d.toNat = m := ⟨_, rfl⟩
    have hgk : (S[k]'hks).toNat = m := by
      rw [HG.out k hks hlk, (List.getElem?_eq_some_iff.1 hd).2]
      exact hm
    have HGK := Lib.hid hgk
    clear hlk
    go_upto_region 5 with (fail)
    by_cases g1 : 97 ≤ m
    · by_cases g2 : m ≤ 122
      · skip
        have HG : Hid (gdAt l (k + 1)) := Lib.hid (gdAt_succ HT.out hd (gd_nat_yes (by rw [hm]; omega)))
        clear hm hd
        go_wp2_with fail
        go_roundw
        case rel => exact ⟨k + 1, by omega, by go_num, HG, by trivial⟩
        case measure => simp [intOf]; omega
      · have g3 : ¬ m < 48 := by omega
        have g5 : 57 < m := by omega
        have q5 : decide ((m : Int) ≤ 122) = false := decide_eq_false (by omega)
        have q4 : ((m : Int) == 95) = false := beq_eq_false_iff_ne.2 (by omega)
        obtain rfl : F = false := by rw [← HF.out]; exact gd_no hd (gd_nat_no (by rw [hm]; omega))
        clear hm hd
        go_wp2_with fail
        go_ret
        exact ⟨rfl, Below.refl _ _⟩
    · by_cases g4 : m = 95
      · have q4 : ((m : Int) == 95) = true := by rw [g4]; rfl
        have HG : Hid (gdAt l (k + 1)) := Lib.hid (gdAt_succ HT.out hd (gd_nat_yes (by rw [hm]; omega)))
        clear hm hd g4
        go_wp2_with fail
        go_roundw
        case rel => exact ⟨k + 1, by omega, by go_num, HG, by trivial⟩
        case measure => simp [intOf]; omega
      · have q4 : ((m : Int) == 95) = false := beq_eq_false_iff_ne.2 (by omega)
        by_cases g5 : m < 48
        · skip
          obtain rfl : F = false := by rw [← HF.out]; exact gd_no hd (gd_nat_no (by rw [hm]; omega))
          clear hm hd
          go_wp2_with fail
          go_ret
          exact ⟨rfl, Below.refl _ _⟩
        · by_cases g6 : 57 < m
          · skip
            obtain rfl : F = false := by rw [← HF.out]; exact gd_no hd (gd_nat_no (by rw [hm]; omega))
            clear hm hd
            go_wp2_with fail
            go_ret
            exact ⟨rfl, Below.refl _ _⟩
          · by_cases g7 : k = 0
            · have q7 : ((k : Int) == 0) = true := by rw [g7]; rfl
              obtain rfl : F = false := by rw [← HF.out]; exact gd_no hd (gd_nat_no (by rw [hm]; omega))
              clear hm hd g7
              go_wp2_with fail
              go_ret
              exact ⟨rfl, Below.refl _ _⟩
            · have q7 : ((k : Int) == 0) = false := beq_eq_false_iff_ne.2 (by omega)
              have HG : Hid (gdAt l (k + 1)) := Lib.hid (gdAt_succ HT.out hd (gd_nat_yes (by rw [hm]; omega)))
              clear hm hd g7
              go_wp2_with fail
              go_roundw
              case rel => exact ⟨k + 1, by omega, by go_num, HG, by trivial⟩
              case measure => simp [intOf]; omega
end Go.Proofs.YtjmplhkdohlbcaaGreatDoor.Lab
/-
  Blocks of the call's own that hold a struct.
-/
namespace Go.Gh
open Go.RowKit
set_option linter.unusedVariables false
theorem box_over {w : World} {b : Nat} {T : TypeId} {cs us : List Value} (h : w.heap[b]? = some (.cells cs.toArray T (0, 0))) (hl : cs.length = us.length) : (setCells w b 0 us).heap[b]? = some (.cells us.toArray T (0, 0)) := by
  have := row_stores us w 0 cs h
  rwa [setFrom_all _ _ hl] at this
section
variable {w : World} {B : Nat} {T : TypeId} {a b c d e f : Value}
theorem bx2 (h : w.heap[B]? = some (.cells #[a, b] T (0, 0))) : (w.cell? ⟨B, 0, none⟩ = some a ∧ w.cell? ⟨B, 1, none⟩ = some b) ∧ (w.frozen? ⟨B, 0, none⟩ = false ∧ w.frozen? ⟨B, 1, none⟩ = false) :=
  ⟨⟨(row_cell 0 _ h rfl).1, (row_cell 1 _ h rfl).1⟩, ⟨(row_cell 0 a h rfl).2, (row_cell 1 b h rfl).2⟩⟩
theorem bx3 (h : w.heap[B]? = some (.cells #[a, b, c] T (0, 0))) : (w.cell? ⟨B, 0, none⟩ = some a ∧ w.cell? ⟨B, 1, none⟩ = some b ∧ w.cell? ⟨B, 2, none⟩ = some c) ∧ (w.frozen? ⟨B, 0, none⟩ = false ∧ w.frozen? ⟨B, 1, none⟩ = false ∧ w.frozen? ⟨B, 2, none⟩ = false) :=
  ⟨⟨(row_cell 0 _ h rfl).1, (row_cell 1 _ h rfl).1, (row_cell 2 _ h rfl).1⟩, ⟨(row_cell 0 a h rfl).2, (row_cell 1 b h rfl).2, (row_cell 2 c h rfl).2⟩⟩
theorem bx4 (h : w.heap[B]? = some (.cells #[a, b, c, d] T (0, 0))) : (w.cell? ⟨B, 0, none⟩ = some a ∧ w.cell? ⟨B, 1, none⟩ = some b ∧ w.cell? ⟨B, 2, none⟩ = some c ∧ w.cell? ⟨B, 3, none⟩ = some d) ∧
    (w.frozen? ⟨B, 0, none⟩ = false ∧ w.frozen? ⟨B, 1, none⟩ = false ∧ w.frozen? ⟨B, 2, none⟩ = false ∧ w.frozen? ⟨B, 3, none⟩ = false) :=
  ⟨⟨(row_cell 0 _ h rfl).1, (row_cell 1 _ h rfl).1, (row_cell 2 _ h rfl).1, (row_cell 3 _ h rfl).1⟩, ⟨(row_cell 0 a h rfl).2, (row_cell 1 b h rfl).2, (row_cell 2 c h rfl).2, (row_cell 3 d h rfl).2⟩⟩
theorem bx6 (h : w.heap[B]? = some (.cells #[a, b, c, d, e, f] T (0, 0))) : (w.cell? ⟨B, 0, none⟩ = some a ∧ w.cell? ⟨B, 1, none⟩ = some b ∧ w.cell? ⟨B, 2, none⟩ = some c ∧ w.cell? ⟨B, 3, none⟩ = some d ∧ w.cell? ⟨B, 4, none⟩ = some e ∧ w.cell? ⟨B, 5, none⟩ = some f) ∧
    (w.frozen? ⟨B, 0, none⟩ = false ∧ w.frozen? ⟨B, 1, none⟩ = false ∧ w.frozen? ⟨B, 2, none⟩ = false ∧ w.frozen? ⟨B, 3, none⟩ = false ∧ w.frozen? ⟨B, 4, none⟩ = false ∧ w.frozen? ⟨B, 5, none⟩ = false) :=
  ⟨⟨(row_cell 0 _ h rfl).1, (row_cell 1 _ h rfl).1, (row_cell 2 _ h rfl).1, (row_cell 3 _ h rfl).1, (row_cell 4 _ h rfl).1, (row_cell 5 _ h rfl).1⟩, ⟨(row_cell 0 a h rfl).2, (row_cell 1 b h rfl).2, (row_cell 2 c h rfl).2, (row_cell 3 d h rfl).2, (row_cell 4 e h rfl).2, (row_cell 5 f h rfl).2⟩⟩
end
end Go.Gh
/-
  Labels: the walks of Check and LabelsFault.
-/
namespace Go.Proofs.YtjmplhkdohlbcaaGreatDoor.Lab
open Go.RowKit Go.Gh
set_option linter.unusedVariables false
set_option linter.unusedSimpArgs false
theorem drop_at' {α : Type} {L : List α} {k : Nat} {x : α} (h : L[k]? = some x) : L.drop k = x :: L.drop (k + 1) := by
  obtain ⟨h1, h2⟩ := List.getElem?_eq_some_iff.1 h
  rw [← h2, List.drop_eq_getElem_cons h1]
set_option maxHeartbeats 8000000 in
set_option maxRecDepth 100000 in
theorem lbcheck_any (v : Value) (L : List Lb) (w : World) (hs : Sp LbR 2 w v L) : Calls Tryz.prog 11 #[v] w fun e w' => e = .returned (.int .i64 (labelF L)) ∧ Below w.heap.size w w' := by
  obtain ⟨n, hn⟩ : ∃ n, L.length = n := ⟨_, rfl⟩
  obtain ⟨ao, c, rfl, hnc, hc⟩ := hs.shapeN hn
  have HN := Lib.hid hn
  obtain ⟨F, hF⟩ : ∃ F, labelF L = F := ⟨_, rfl⟩
  rw [hF]
  have HS := Lib.hid hs
  by_cases hbig : 10 < n
  · have hF2 : F = 2 := by rw [← hF]; exact if_pos (by omega)
    clear hn hF hs
    subst hF2
    go_enter Tryz.func11, Tryz.ntmps11
    go_wp2_with fail
    go_ret
    exact ⟨rfl, Below.refl _ _⟩
  have HG : Hid (F = goL none L) := Lib.hid (by rw [← hF]; exact if_neg (by omega))
  clear hn hF hs
  go_enter Tryz.func11, Tryz.ntmps11
  go_wp2_with fail
  go_loopw [3, 11] (fun s i wr => ∃ (k : Nat) (p : Option By) (T : ByteArray), k ≤ n ∧ i = .int .i64 k ∧ s = .string T ∧ Hid (T = mkS (lastN p)) ∧ Hid (F = goL p (L.drop k)) ∧ Below w.heap.size w wr) (fun _ i _ => n - (intOf i).toNat)
  case atStart => exact ⟨0, none, ⟨#[]⟩, Nat.zero_le _, rfl, rfl, Lib.hid rfl, HG, Below.refl _ _⟩
  case round =>
    obtain ⟨k, p, T, hk, rfl, rfl, HT, HF, hbr⟩ := hrel
    by_cases hlt : k < n
    case neg =>
      obtain rfl : k = n := by omega
      have h0 : F = 0 := by rw [HF.out, List.drop_of_length_le (Nat.le_of_eq HN.out)]; rfl
      subst h0
      go_wp2_with fail
      go_ret
      exact ⟨rfl, hbr⟩
    obtain ⟨x, hx⟩ : ∃ x, L[k]? = some x := ⟨_, List.getElem?_eq_getElem (by rw [HN.out]; exact hlt)⟩
    obtain ⟨b, off, cs, rfl, ⟨rfl, hb1, hb2⟩, _, hck⟩ := (HS.out.below lbR_mono hbr).get hx
    have HF2 : Hid (F = if nameOk x.nm = false then 4 else if badO p x.nm = true then 5 else if 40 < x.vl.length then 2 else goL (some x.nm) (L.drop (k + 1))) := Lib.hid (by rw [HF.out, drop_at' hx, goL_cons])
    have c0 := hck 0 _ rfl
    have c1 := hck 1 _ rfl
    rw [Nat.add_zero] at c0
    have HNC := Lib.hid (fun w => name_any x.nm w hb1)
    have HLB : Hid (nameOk x.nm = true → (Op.bytesLess (mkS x.nm).toList T.toList || (mkS x.nm).toList == T.toList) = badO p x.nm) := Lib.hid (fun h => by
      rw [HT.out, mkS_list, mkS_list]
      exact bad_le p (nameOk_all h).1)
    have HVS : Hid ((mkS x.vl).size = x.vl.length) := Lib.hid (mkS_size _)
    have HNX : Hid (mkS x.nm = mkS (lastN (some x.nm))) := Lib.hid rfl
    generalize hSx : mkS x.nm = S at *
    generalize mkS x.vl = V at *
    obtain ⟨B, hB⟩ : ∃ B, nameOk x.nm = B := ⟨_, rfl⟩
    rw [hB] at HF2 HNC HLB
    obtain ⟨O, hO⟩ : ∃ O, badO p x.nm = O := ⟨_, rfl⟩
    rw [hO] at HF2 HLB
    obtain ⟨q, hq⟩ : ∃ q, x.vl.length = q := ⟨_, rfl⟩
    rw [hq] at HF2 HVS
    clear hck hx HF hB hO hq hb1 hb2 hSx
    have hBa := hbr.alloc hbr.size (Obj.cells #[.string S, .string V] 75)
    have hbox := heap_alloc_new wr (Obj.cells #[.string S, .string V] 75)
    have HBA := Lib.hid hBa
    have HBX := Lib.hid hbox
    clear hbox
    cases B with
    | false =>
      have h4 : F = 4 := by rw [HF2.out, if_pos rfl]
      subst h4
      go_wp2_with fail
      refine (HNC.out _).mono ?_
      rintro e w2 ⟨rfl, hb2⟩
      go_wp2_with fail
      go_ret
      exact ⟨rfl, HBA.out.trans (hb2.mono HBA.out.size)⟩
    | true =>
    go_wp2_with fail
    refine (HNC.out _).mono ?_
    rintro e w2 ⟨rfl, hb2⟩
    have HB2 := Lib.hid (HBA.out.trans (hb2.mono HBA.out.size))
    obtain ⟨⟨x0, x1⟩, -⟩ := bx2 ((hb2.block _ (Array.getElem?_eq_some_iff.1 HBX.out).1).trans HBX.out)
    have hlb := HLB.out (by trivial)
    clear hb2 hBa
    generalize hb1 : Op.bytesLess S.toList T.toList = b1 at *
    generalize hb2 : (S.toList == T.toList) = b2 at *
    cases O with
    | true =>
      have h5 : F = 5 := by rw [HF2.out, if_neg (by decide), if_pos rfl]
      subst h5
      cases b1 with
      | true =>
        clear hlb
        go_wp2_with fail
        go_ret
        exact ⟨rfl, HB2.out⟩
      | false =>
        obtain rfl : b2 = true := by simpa using hlb
        clear hlb
        go_wp2_with fail
        go_ret
        exact ⟨rfl, HB2.out⟩
    | false =>
    obtain ⟨rfl, rfl⟩ : b1 = false ∧ b2 = false := by simpa using hlb
    clear hlb
    have hvq := HVS.out
    by_cases h40 : 40 < q
    · have h2 : F = 2 := by rw [HF2.out, if_neg (by decide), if_neg (by decide), if_pos h40]
      subst h2
      go_wp2_with fail
      go_ret
      exact ⟨rfl, HB2.out⟩
    · have HF3 : Hid (F = goL (some x.nm) (L.drop (k + 1))) := Lib.hid (by rw [HF2.out, if_neg (by decide), if_neg (by decide), if_neg h40])
      go_wp2_with fail
      go_roundw
      case rel => exact ⟨k + 1, some x.nm, S, by omega, by go_num, rfl, HNX, HF3, HB2.out⟩
      case measure => simp [intOf]; omega
end Go.Proofs.YtjmplhkdohlbcaaGreatDoor.Lab
/-
  Labels: the walk of LabelsFault.
-/
namespace Go.Proofs.YtjmplhkdohlbcaaGreatDoor.Lab
open Go.RowKit Go.Gh
set_option linter.unusedVariables false
set_option linter.unusedSimpArgs false
/-- The name ahead. -/
def prevN (L : List Lb) (k : Nat) : Option By := if k = 0 then none else (L[k - 1]?).map Lb.nm
set_option maxHeartbeats 8000000 in
set_option maxRecDepth 100000 in
theorem lbfault_any (v : Value) (L : List Lb) (w : World) (hs : Sp LbR 2 w v L) : Calls Tryz.prog 10 #[v] w fun e w' => e = .returned (.int .i64 (labelF L)) ∧ Below w.heap.size w w' := by
  obtain ⟨n, hn⟩ : ∃ n, L.length = n := ⟨_, rfl⟩
  obtain ⟨ao, c, rfl, hnc, hc⟩ := hs.shapeN hn
  have HN := Lib.hid hn
  obtain ⟨F, hF⟩ : ∃ F, labelF L = F := ⟨_, rfl⟩
  rw [hF]
  have HS := Lib.hid hs
  by_cases hbig : 10 < n
  · have hF2 : F = 2 := by rw [← hF]; exact if_pos (by omega)
    clear hn hF hs
    subst hF2
    go_enter Tryz.func10, Tryz.ntmps10
    go_wp2_with fail
    go_ret
    exact ⟨rfl, Below.refl _ _⟩
  have HG : Hid (F = goL none L) := Lib.hid (by rw [← hF]; exact if_neg (by omega))
  clear hn hF hs
  go_enter Tryz.func10, Tryz.ntmps10
  go_wp2_with fail
  go_loopw [10] (fun i wr => ∃ k : Nat, k ≤ n ∧ i = .int .i64 k ∧ Hid (F = goL (prevN L k) (L.drop k)) ∧ Below w.heap.size w wr) (fun i _ => n - (intOf i).toNat)
  case atStart => exact ⟨0, Nat.zero_le _, rfl, HG, Below.refl _ _⟩
  case round =>
    obtain ⟨k, hk, rfl, HF, hbr⟩ := hrel
    by_cases hlt : k < n
    case neg =>
      obtain rfl : k = n := by omega
      have h0 : F = 0 := by rw [HF.out, List.drop_of_length_le (Nat.le_of_eq HN.out)]; rfl
      subst h0
      go_wp2_with fail
      go_ret
      exact ⟨rfl, hbr⟩
    obtain ⟨x, hx⟩ : ∃ x, L[k]? = some x := ⟨_, List.getElem?_eq_getElem (by rw [HN.out]; exact hlt)⟩
    obtain ⟨b, off, cs, rfl, ⟨rfl, hb1, hb2⟩, _, hck⟩ := (HS.out.below lbR_mono hbr).get hx
    have HF2 : Hid (F = if nameOk x.nm = false then 4 else if badO (prevN L k) x.nm = true then 5 else if 40 < x.vl.length then 2 else goL (some x.nm) (L.drop (k + 1))) := Lib.hid (by rw [HF.out, drop_at' hx, goL_cons])
    have c0 := hck 0 _ rfl
    have c1 := hck 1 _ rfl
    rw [Nat.add_zero] at c0
    have HNC := Lib.hid (fun w => goodname_any x.nm w hb1)
    have HVS : Hid ((mkS x.vl).size = x.vl.length) := Lib.hid (mkS_size _)
    have HPN : Hid (prevN L (k + 1) = some x.nm) := Lib.hid (by unfold prevN; rw [if_neg (by omega), Nat.add_sub_cancel, hx]; rfl)
    have hcase : (k = 0 ∧ badO (prevN L k) x.nm = false) ∨ ∃ (j : Nat) (T : ByteArray), k = j + 1 ∧ wr.cell? ⟨b, off + j * 2, none⟩ = some (.string T) ∧ (nameOk x.nm = true → (Op.bytesLess (mkS x.nm).toList T.toList || (mkS x.nm).toList == T.toList) = badO (prevN L k) x.nm) := by
      by_cases h0 : k = 0
      · exact Or.inl ⟨h0, by rw [h0]; rfl⟩
      · obtain ⟨j, rfl⟩ : ∃ j, k = j + 1 := ⟨k - 1, by omega⟩
        obtain ⟨y, hy⟩ : ∃ y, L[j]? = some y := ⟨_, List.getElem?_eq_getElem (by rw [HN.out]; omega)⟩
        obtain ⟨b', off', cs', e', ⟨rfl, -, -⟩, _, hck'⟩ := (HS.out.below lbR_mono hbr).get hy
        injection e' with e'
        injection e' with e1 e2
        have d0 := hck' 0 _ rfl
        rw [Nat.add_zero, ← e1, ← e2] at d0
        refine Or.inr ⟨j, _, rfl, d0, fun h => ?_⟩
        have hp : prevN L (j + 1) = some y.nm := by unfold prevN; rw [if_neg (by omega), Nat.add_sub_cancel, hy]; rfl
        rw [hp, mkS_list, mkS_list]
        exact bad_le (some y.nm) (nameOk_all h).1
    generalize hSx : mkS x.nm = S at *
    generalize mkS x.vl = V at *
    obtain ⟨B, hB⟩ : ∃ B, nameOk x.nm = B := ⟨_, rfl⟩
    rw [hB] at HF2 HNC hcase
    obtain ⟨O, hO⟩ : ∃ O, badO (prevN L k) x.nm = O := ⟨_, rfl⟩
    rw [hO] at HF2 hcase
    obtain ⟨q, hq⟩ : ∃ q, x.vl.length = q := ⟨_, rfl⟩
    rw [hq] at HF2 HVS
    have HCASE := Lib.hid hcase
    clear hck hx HF hB hO hq hb1 hb2 hSx hcase
    have hBa := hbr.alloc hbr.size (Obj.cells #[.string S, .string V] 75)
    have hbox := heap_alloc_new wr (Obj.cells #[.string S, .string V] 75)
    have HBA := Lib.hid hBa
    have HBX := Lib.hid hbox
    clear hbox
    cases B with
    | false =>
      have h4 : F = 4 := by rw [HF2.out, if_pos rfl]
      subst h4
      go_wp2_with fail
      refine (HNC.out _).mono ?_
      rintro e w2 ⟨rfl, hb2⟩
      go_wp2_with fail
      go_ret
      exact ⟨rfl, HBA.out.trans (hb2.mono HBA.out.size)⟩
    | true =>
    go_wp2_with fail
    refine (HNC.out _).mono ?_
    rintro e w2 ⟨rfl, hb2⟩
    have HB2 := Lib.hid (HBA.out.trans (hb2.mono HBA.out.size))
    obtain ⟨⟨x0, x1⟩, -⟩ := bx2 ((hb2.block _ (Array.getElem?_eq_some_iff.1 HBX.out).1).trans HBX.out)
    clear hBa
    have HCB : Hid (Below wr.heap.size wr w2) := Lib.hid (((Below.refl wr.heap.size wr).alloc (Nat.le_refl _) _).trans (hb2.mono (by simp)))
    clear hb2
    have hvq := HVS.out
    have hF2 := HF2.out
    rcases HCASE.out with ⟨rfl, rfl⟩ | ⟨j, T, hkj, d0, hlb⟩
    · by_cases h40 : 40 < q
      · have h2 : F = 2 := by rw [hF2, if_neg (by decide), if_neg (by decide), if_pos h40]
        clear hF2
        subst h2
        go_wp2_with fail
        go_quiet (fail)
        go_wp2_with fail
        go_ret
        exact ⟨rfl, below_drewN HB2.out _⟩
      · have HF3 : Hid (F = goL (prevN L (0 + 1)) (L.drop (0 + 1))) := Lib.hid (by rw [hF2, if_neg (by decide), if_neg (by decide), if_neg h40, HPN.out])
        clear hF2
        go_wp2_with fail
        go_quiet (fail)
        go_wp2_with fail
        go_roundw
        case rel => exact ⟨0 + 1, by omega, by go_num, HF3, below_drewN HB2.out _⟩
        case measure => simp [intOf]; omega
    have hlb := hlb (by trivial)
    have d0 := (HCB.out.cell (p := ⟨b, off + j * 2, none⟩) (cell_lt d0)).trans d0
    have hkj2 : (k : Int) - 1 = (j : Int) := by omega
    have hw1 : IntKind.i64.wrap ((k : Int) - 1) = (j : Int) := by rw [IntKind.wrap_i64]; omega
    have hw2 : IntKind.i64.wrap (j : Int) = (j : Int) := by rw [IntKind.wrap_i64]; omega
    have hj0 : (0 : Int) ≤ (j : Int) := by omega
    have hj1 : (j : Int) < (n : Int) := by omega
    have hj2 : j < n := by omega
    have hk0 : 0 < k := by omega
    have HKJ := Lib.hid hkj
    clear hkj
    generalize hb1 : Op.bytesLess S.toList T.toList = b1 at *
    generalize hb2 : (S.toList == T.toList) = b2 at *
    cases O with
    | true =>
      have h5 : F = 5 := by rw [hF2, if_neg (by decide), if_pos rfl]
      clear hF2
      subst h5
      cases b1 with
      | true =>
        clear hlb
        go_wp2_with fail
        go_quiet (fail)
        go_wp2_with fail
        go_ret
        exact ⟨rfl, below_drewN HB2.out _⟩
      | false =>
        obtain rfl : b2 = true := by simpa using hlb
        clear hlb
        go_wp2_with fail
        go_quiet (fail)
        go_wp2_with fail
        go_ret
        exact ⟨rfl, below_drewN HB2.out _⟩
    | false =>
    obtain ⟨rfl, rfl⟩ : b1 = false ∧ b2 = false := by simpa using hlb
    clear hlb
    by_cases h40 : 40 < q
    · have h2 : F = 2 := by rw [hF2, if_neg (by decide), if_neg (by decide), if_pos h40]
      clear hF2
      subst h2
      go_wp2_with fail
      go_quiet (fail)
      go_wp2_with fail
      go_ret
      exact ⟨rfl, below_drewN HB2.out _⟩
    · have HF3 : Hid (F = goL (prevN L (k + 1)) (L.drop (k + 1))) := Lib.hid (by rw [hF2, if_neg (by decide), if_neg (by decide), if_neg h40, HPN.out])
      clear hF2
      go_wp2_with fail
      go_quiet (fail)
      go_wp2_with fail
      go_roundw
      case rel => exact ⟨k + 1, by omega, by go_num, HF3, below_drewN HB2.out _⟩
      case measure => simp [intOf]; omega
end Go.Proofs.YtjmplhkdohlbcaaGreatDoor.Lab
/-
  Matches: the walks of CheckMatch and MatchFault.
-/
namespace Go.Proofs.YtjmplhkdohlbcaaGreatDoor.Lab
open Go.RowKit Go.Gh
set_option linter.unusedVariables false
set_option linter.unusedSimpArgs false
set_option maxHeartbeats 8000000 in
set_option maxRecDepth 100000 in
theorem mtcheck_any (v : Value) (L : List Mt) (w : World) (hs : Sp MtR 3 w v L) : Calls Tryz.prog 47 #[v] w fun e w' => e = .returned (.int .i64 (matchF L)) ∧ Below w.heap.size w w' := by
  obtain ⟨n, hn⟩ : ∃ n, L.length = n := ⟨_, rfl⟩
  obtain ⟨ao, c, rfl, hnc, hc⟩ := hs.shapeN hn
  have HN := Lib.hid hn
  obtain ⟨F, hF⟩ : ∃ F, matchF L = F := ⟨_, rfl⟩
  rw [hF]
  have HS := Lib.hid hs
  by_cases hbig : 10 < n
  · have hF2 : F = 2 := by rw [← hF]; exact if_pos (by omega)
    clear hn hF hs
    subst hF2
    go_enter Tryz.func47, Tryz.ntmps47
    go_wp2_with fail
    go_ret
    exact ⟨rfl, Below.refl _ _⟩
  have HG : Hid (F = goM L) := Lib.hid (by rw [← hF]; exact if_neg (by omega))
  clear hn hF hs
  go_enter Tryz.func47, Tryz.ntmps47
  go_wp2_with fail
  go_loopw [10] (fun i wr => ∃ k : Nat, k ≤ n ∧ i = .int .i64 k ∧ Hid (F = goM (L.drop k)) ∧ Below w.heap.size w wr) (fun i _ => n - (intOf i).toNat)
  case atStart => exact ⟨0, Nat.zero_le _, rfl, HG, Below.refl _ _⟩
  case round =>
    obtain ⟨k, hk, rfl, HF, hbr⟩ := hrel
    by_cases hlt : k < n
    case neg =>
      obtain rfl : k = n := by omega
      have h0 : F = 0 := by rw [HF.out, List.drop_of_length_le (Nat.le_of_eq HN.out)]; rfl
      subst h0
      go_wp2_with fail
      go_ret
      exact ⟨rfl, hbr⟩
    obtain ⟨x, hx⟩ : ∃ x, L[k]? = some x := ⟨_, List.getElem?_eq_getElem (by rw [HN.out]; exact hlt)⟩
    obtain ⟨b, off, cs, rfl, ⟨rfl, hb1, hb2, hk1, hk2⟩, _, hck⟩ := (HS.out.below mtR_mono hbr).get hx
    have HF2 : Hid (F = if x.kd < 1 ∨ 4 < x.kd then 1 else if nameOk x.nm = false then 4 else if 40 < x.vl.length then 2 else goM (L.drop (k + 1))) := Lib.hid (by rw [HF.out, drop_at' hx, goM])
    have c0 := hck 0 _ rfl
    have c1 := hck 1 _ rfl
    have c2 := hck 2 _ rfl
    rw [Nat.add_zero] at c0
    have HNC := Lib.hid (fun w => name_any x.nm w hb1)
    have HVS : Hid ((mkS x.vl).size = x.vl.length) := Lib.hid (mkS_size _)
    generalize hSx : mkS x.nm = S at *
    generalize mkS x.vl = V at *
    obtain ⟨K, hK⟩ : ∃ K, x.kd = K := ⟨_, rfl⟩
    rw [hK] at HF2 c0 hk1 hk2
    obtain ⟨B, hB⟩ : ∃ B, nameOk x.nm = B := ⟨_, rfl⟩
    rw [hB] at HF2 HNC
    obtain ⟨q, hq⟩ : ∃ q, x.vl.length = q := ⟨_, rfl⟩
    rw [hq] at HF2 HVS
    clear hck hx HF hB hq hb1 hb2 hSx
    have hBa := hbr.alloc hbr.size (Obj.cells #[.int .i64 K, .string S, .string V] 73)
    have hbox := heap_alloc_new wr (Obj.cells #[.int .i64 K, .string S, .string V] 73)
    have HBA := Lib.hid hBa
    have HBX := Lib.hid hbox
    clear hbox hK
    by_cases hkl : K < 1
    · have h4 : F = 1 := by rw [HF2.out, if_pos (Or.inl hkl)]
      subst h4
      go_wp2_with fail
      go_ret
      exact ⟨rfl, hBa⟩
    by_cases hkg : 4 < K
    · have h4 : F = 1 := by rw [HF2.out, if_pos (Or.inr hkg)]
      subst h4
      go_wp2_with fail
      go_ret
      exact ⟨rfl, hBa⟩
    have HF3 : Hid (F = if B = false then 4 else if 40 < q then 2 else goM (L.drop (k + 1))) := Lib.hid (by rw [HF2.out, if_neg (by omega)])
    cases B with
    | false =>
      have h4 : F = 4 := by rw [HF3.out, if_pos rfl]
      subst h4
      go_wp2_with fail
      refine (HNC.out _).mono ?_
      rintro e w2 ⟨rfl, hb2⟩
      go_wp2_with fail
      go_ret
      exact ⟨rfl, HBA.out.trans (hb2.mono HBA.out.size)⟩
    | true =>
    go_wp2_with fail
    refine (HNC.out _).mono ?_
    rintro e w2 ⟨rfl, hb2⟩
    have HB2 := Lib.hid (HBA.out.trans (hb2.mono HBA.out.size))
    obtain ⟨⟨x0, x1, x2⟩, -⟩ := bx3 ((hb2.block _ (Array.getElem?_eq_some_iff.1 HBX.out).1).trans HBX.out)
    clear hb2 hBa
    have hvq := HVS.out
    by_cases h40 : 40 < q
    · have h2 : F = 2 := by rw [HF3.out, if_neg (by decide), if_pos h40]
      subst h2
      go_wp2_with fail
      go_ret
      exact ⟨rfl, HB2.out⟩
    · have HF4 : Hid (F = goM (L.drop (k + 1))) := Lib.hid (by rw [HF3.out, if_neg (by decide), if_neg h40])
      go_wp2_with fail
      go_roundw
      case rel => exact ⟨k + 1, by omega, by go_num, HF4, HB2.out⟩
      case measure => simp [intOf]; omega
set_option maxHeartbeats 8000000 in
set_option maxRecDepth 100000 in
theorem mtfault_any (v : Value) (L : List Mt) (w : World) (hs : Sp MtR 3 w v L) : Calls Tryz.prog 22 #[v] w fun e w' => e = .returned (.int .i64 (matchF L)) ∧ Below w.heap.size w w' := by
  obtain ⟨n, hn⟩ : ∃ n, L.length = n := ⟨_, rfl⟩
  obtain ⟨ao, c, rfl, hnc, hc⟩ := hs.shapeN hn
  have HN := Lib.hid hn
  obtain ⟨F, hF⟩ : ∃ F, matchF L = F := ⟨_, rfl⟩
  rw [hF]
  have HS := Lib.hid hs
  by_cases hbig : 10 < n
  · have hF2 : F = 2 := by rw [← hF]; exact if_pos (by omega)
    clear hn hF hs
    subst hF2
    go_enter Tryz.func22, Tryz.ntmps22
    go_wp2_with fail
    go_ret
    exact ⟨rfl, Below.refl _ _⟩
  have HG : Hid (F = goM L) := Lib.hid (by rw [← hF]; exact if_neg (by omega))
  clear hn hF hs
  go_enter Tryz.func22, Tryz.ntmps22
  go_wp2_with fail
  go_loopw [10] (fun i wr => ∃ k : Nat, k ≤ n ∧ i = .int .i64 k ∧ Hid (F = goM (L.drop k)) ∧ Below w.heap.size w wr) (fun i _ => n - (intOf i).toNat)
  case atStart => exact ⟨0, Nat.zero_le _, rfl, HG, Below.refl _ _⟩
  case round =>
    obtain ⟨k, hk, rfl, HF, hbr⟩ := hrel
    by_cases hlt : k < n
    case neg =>
      obtain rfl : k = n := by omega
      have h0 : F = 0 := by rw [HF.out, List.drop_of_length_le (Nat.le_of_eq HN.out)]; rfl
      subst h0
      go_wp2_with fail
      go_ret
      exact ⟨rfl, hbr⟩
    obtain ⟨x, hx⟩ : ∃ x, L[k]? = some x := ⟨_, List.getElem?_eq_getElem (by rw [HN.out]; exact hlt)⟩
    obtain ⟨b, off, cs, rfl, ⟨rfl, hb1, hb2, hk1, hk2⟩, _, hck⟩ := (HS.out.below mtR_mono hbr).get hx
    have HF2 : Hid (F = if x.kd < 1 ∨ 4 < x.kd then 1 else if nameOk x.nm = false then 4 else if 40 < x.vl.length then 2 else goM (L.drop (k + 1))) := Lib.hid (by rw [HF.out, drop_at' hx, goM])
    have c0 := hck 0 _ rfl
    have c1 := hck 1 _ rfl
    have c2 := hck 2 _ rfl
    rw [Nat.add_zero] at c0
    have HNC := Lib.hid (fun w => goodname_any x.nm w hb1)
    have HVS : Hid ((mkS x.vl).size = x.vl.length) := Lib.hid (mkS_size _)
    generalize hSx : mkS x.nm = S at *
    generalize mkS x.vl = V at *
    obtain ⟨K, hK⟩ : ∃ K, x.kd = K := ⟨_, rfl⟩
    rw [hK] at HF2 c0 hk1 hk2
    obtain ⟨B, hB⟩ : ∃ B, nameOk x.nm = B := ⟨_, rfl⟩
    rw [hB] at HF2 HNC
    obtain ⟨q, hq⟩ : ∃ q, x.vl.length = q := ⟨_, rfl⟩
    rw [hq] at HF2 HVS
    clear hck hx HF hB hq hb1 hb2 hSx
    have hBa := hbr.alloc hbr.size (Obj.cells #[.int .i64 K, .string S, .string V] 73)
    have hbox := heap_alloc_new wr (Obj.cells #[.int .i64 K, .string S, .string V] 73)
    have HBA := Lib.hid hBa
    have HBX := Lib.hid hbox
    clear hbox hK
    by_cases hkl : K < 1
    · have h4 : F = 1 := by rw [HF2.out, if_pos (Or.inl hkl)]
      subst h4
      go_wp2_with fail
      go_ret
      exact ⟨rfl, hBa⟩
    by_cases hkg : 4 < K
    · have h4 : F = 1 := by rw [HF2.out, if_pos (Or.inr hkg)]
      subst h4
      go_wp2_with fail
      go_ret
      exact ⟨rfl, hBa⟩
    have HF3 : Hid (F = if B = false then 4 else if 40 < q then 2 else goM (L.drop (k + 1))) := Lib.hid (by rw [HF2.out, if_neg (by omega)])
    cases B with
    | false =>
      have h4 : F = 4 := by rw [HF3.out, if_pos rfl]
      subst h4
      go_wp2_with fail
      refine (HNC.out _).mono ?_
      rintro e w2 ⟨rfl, hb2⟩
      go_wp2_with fail
      go_ret
      exact ⟨rfl, HBA.out.trans (hb2.mono HBA.out.size)⟩
    | true =>
    go_wp2_with fail
    refine (HNC.out _).mono ?_
    rintro e w2 ⟨rfl, hb2⟩
    have HB2 := Lib.hid (HBA.out.trans (hb2.mono HBA.out.size))
    obtain ⟨⟨x0, x1, x2⟩, -⟩ := bx3 ((hb2.block _ (Array.getElem?_eq_some_iff.1 HBX.out).1).trans HBX.out)
    clear hb2 hBa
    have hvq := HVS.out
    by_cases h40 : 40 < q
    · have h2 : F = 2 := by rw [HF3.out, if_neg (by decide), if_pos h40]
      subst h2
      go_wp2_with fail
      go_ret
      exact ⟨rfl, HB2.out⟩
    · have HF4 : Hid (F = goM (L.drop (k + 1))) := Lib.hid (by rw [HF3.out, if_neg (by decide), if_neg h40])
      go_wp2_with fail
      go_roundw
      case rel => exact ⟨k + 1, by omega, by go_num, HF4, HB2.out⟩
      case measure => simp [intOf]; omega
end Go.Proofs.YtjmplhkdohlbcaaGreatDoor.Lab
/-
  Labels: the walk of InQuotes.
-/
namespace Go.Proofs.YtjmplhkdohlbcaaGreatDoor.Lab
open Go.RowKit Go.Gh
set_option linter.unusedVariables false
set_option linter.unusedSimpArgs false
theorem esc_take {l : By} {k : Nat} {d : UInt8} (h : l[k]? = some d) : esc (l.take (k + 1)) = esc (l.take k) ++ escB d := by
  obtain ⟨h1, h2⟩ := List.getElem?_eq_some_iff.1 h
  unfold esc
  rw [List.take_succ_eq_append_getElem h1, h2, List.flatMap_append]
  simp
theorem one_byte {l : By} {k : Nat} {d : UInt8} (h : l[k]? = some d) : (mkS l).extract k (k + 1) = mkS [d] := by
  obtain ⟨h1, h2⟩ := List.getElem?_eq_some_iff.1 h
  rw [mkS_ext, List.drop_eq_getElem_cons h1, h2, show k + 1 - k = 1 by omega]
  rfl
theorem toNat_eq (d c : UInt8) : d.toNat = c.toNat ↔ d = c := UInt8.toNat_inj
set_option maxHeartbeats 8000000 in
set_option maxRecDepth 100000 in
theorem inquotes_any (l : By) (w : World) (hsz : l.length ≤ 140737488355328) : Calls Tryz.prog 52 #[.string (mkS l)] w fun e w' => e = .returned (.string (mkS (quo l))) ∧ w' = w := by
  have hml := mkS_size l
  have HG := Lib.hid (mkS_get l)
  have HX := Lib.hid (fun k d (h : l[k]? = some d) => one_byte h)
  obtain ⟨R, hR⟩ : ∃ R, mkS (quo l) = R := ⟨_, rfl⟩
  rw [hR]
  have HR := Lib.hid hR
  clear hR
  generalize mkS l = S at hml HG HX ⊢
  obtain ⟨n, hn⟩ : ∃ n, S.size = n := ⟨_, rfl⟩
  rw [hn] at hml
  have HL := Lib.hid hml.symm
  have hn63 : n ≤ 140737488355328 := by omega
  clear hml
  go_enter Tryz.func52, Tryz.ntmps52
  go_wp2_with fail
  go_loopw [3, 7] (fun o i wr => ∃ (k : Nat) (O : ByteArray), k ≤ n ∧ i = .int .i64 k ∧ o = .string O ∧ Hid (O = mkS (34 :: esc (l.take k))) ∧ O.size ≤ 1 + 2 * k ∧ wr = w) (fun _ i _ => n - (intOf i).toNat)
  case atStart => exact ⟨0, _, Nat.zero_le _, rfl, rfl, Lib.hid rfl, by decide, rfl⟩
  case round =>
    obtain ⟨k, O, hk, rfl, rfl, HO, hosz, hwe⟩ := hrel
    have hwe := hwe.symm
    subst hwe
    by_cases hlt : k < n
    case neg =>
      obtain rfl : k = n := by omega
      have hsum : O.size + 1 ≤ 9223372036854775807 := by omega
      have HRR : Hid (O ++ ⟨#[34]⟩ = R) := Lib.hid (by
        rw [← HR.out, HO.out, List.take_of_length_le (Nat.le_of_eq HL.out)]
        exact mkS_app _ [34])
      go_wp2_with fail
      go_ret
      exact ⟨by rw [← HRR.out]; rfl, rfl⟩
    have hlk : k < l.length := by rw [HL.out]; exact hlt
    have hks : k < S.size := by rw [hn]; exact hlt
    obtain ⟨d, hd⟩ : ∃ d, l[k]? = some d := ⟨_, List.getElem?_eq_getElem hlk⟩
    obtain ⟨m, hm⟩ : ∃ m, d.toNat = m := ⟨_, rfl⟩
    have hgk : (S[k]'hks).toNat = m := by
      rw [HG.out k hks hlk, (List.getElem?_eq_some_iff.1 hd).2]
      exact hm
    have hpie := HX.out k d hd
    have HET := Lib.hid (esc_take hd)
    have hone : (mkS [d]).size = 1 := mkS_size _
    have hsum : O.size + 2 ≤ 9223372036854775807 := by omega
    have hsum1 : O.size + 1 ≤ 9223372036854775807 := by omega
    have hkn : (k : Int) + 1 ≤ (n : Int) := by omega
    have hk1t : ((k : Int) + 1).toNat = k + 1 := by omega
    have hesc : escB d = if m = 92 then [92, 92] else if m = 34 then [92, 34] else if m = 10 then [92, 110] else [d] := by
      have e1 : (m = 92) = (d = 92) := by rw [← hm, eq_iff_iff]; exact toNat_eq d 92
      have e2 : (m = 34) = (d = 34) := by rw [← hm, eq_iff_iff]; exact toNat_eq d 34
      have e3 : (m = 10) = (d = 10) := by rw [← hm, eq_iff_iff]; exact toNat_eq d 10
      unfold escB
      simp only [e1, e2, e3]
    have HESC := Lib.hid hesc
    clear hm hd hesc hlk
    by_cases g1 : m = 34
    · have HO2 : Hid (O ++ ⟨#[92, 34]⟩ = mkS (34 :: esc (l.take (k + 1)))) := Lib.hid (by
        rw [HO.out, HET.out, HESC.out, if_neg (by omega), if_pos g1]
        exact mkS_app _ [92, 34])
      have hs2 : (O ++ ⟨#[92, 34]⟩ : ByteArray).size ≤ 1 + 2 * (k + 1) := by rw [ByteArray.size_append]; show O.size + 2 ≤ _; omega
      have HS2 := Lib.hid hs2
      clear hs2
      go_wp2_with fail
      go_roundw
      case rel => exact ⟨k + 1, _, by omega, by go_num, rfl, HO2, HS2.out, by trivial⟩
      case measure => simp [intOf]; omega
    by_cases g2 : m = 92
    · have HO2 : Hid (O ++ ⟨#[92, 92]⟩ = mkS (34 :: esc (l.take (k + 1)))) := Lib.hid (by
        rw [HO.out, HET.out, HESC.out, if_pos g2]
        exact mkS_app _ [92, 92])
      have hs2 : (O ++ ⟨#[92, 92]⟩ : ByteArray).size ≤ 1 + 2 * (k + 1) := by rw [ByteArray.size_append]; show O.size + 2 ≤ _; omega
      have HS2 := Lib.hid hs2
      clear hs2
      go_wp2_with fail
      go_roundw
      case rel => exact ⟨k + 1, _, by omega, by go_num, rfl, HO2, HS2.out, by trivial⟩
      case measure => simp [intOf]; omega
    by_cases g3 : m = 10
    · have HO2 : Hid (O ++ ⟨#[92, 110]⟩ = mkS (34 :: esc (l.take (k + 1)))) := Lib.hid (by
        rw [HO.out, HET.out, HESC.out, if_neg g2, if_neg g1, if_pos g3]
        exact mkS_app _ [92, 110])
      have hs2 : (O ++ ⟨#[92, 110]⟩ : ByteArray).size ≤ 1 + 2 * (k + 1) := by rw [ByteArray.size_append]; show O.size + 2 ≤ _; omega
      have HS2 := Lib.hid hs2
      clear hs2
      go_wp2_with fail
      go_roundw
      case rel => exact ⟨k + 1, _, by omega, by go_num, rfl, HO2, HS2.out, by trivial⟩
      case measure => simp [intOf]; omega
    · have HO2 : Hid (O ++ mkS [d] = mkS (34 :: esc (l.take (k + 1)))) := Lib.hid (by
        rw [HO.out, HET.out, HESC.out, if_neg g2, if_neg g1, if_neg g3]
        exact mkS_app _ [d])
      have hs2 : (O ++ mkS [d] : ByteArray).size ≤ 1 + 2 * (k + 1) := by rw [ByteArray.size_append, mkS_size]; show O.size + 1 ≤ _; omega
      have HS2 := Lib.hid hs2
      clear hs2
      generalize mkS [d] = D at *
      go_wp2_with fail
      go_roundw
      case rel => exact ⟨k + 1, _, by omega, by go_num, rfl, HO2, HS2.out, by trivial⟩
      case measure => simp [intOf]; omega
end Go.Proofs.YtjmplhkdohlbcaaGreatDoor.Lab
/-
  The replacer: a lock that is free, and what sync.Once defers (one goroutine).
-/
namespace Go.Proofs.YtjmplhkdohlbcaaGreatDoor.Rep
open Go.RowKit Go.Gh
set_option linter.unusedVariables false
set_option linter.unusedSimpArgs false
theorem disable (w : World) : (callFunc 203 #[]).run Tryz.prog w = .ok (.value (.tuple #[])) w := run_call_mark0 Tryz.func203 (by kernel_rfl) (by kernel_rfl) (by kernel_rfl) .disable (by kernel_rfl) w
theorem enable (w : World) : (callFunc 205 #[]).run Tryz.prog w = .ok (.value (.tuple #[])) w := run_call_mark0 Tryz.func205 (by kernel_rfl) (by kernel_rfl) (by kernel_rfl) .enable (by kernel_rfl) w
theorem acquire (a : Addr) (w : World) : (callFunc 206 #[.pointer (some a)]).run Tryz.prog w = .ok (.value (.tuple #[])) w := run_call_marked Tryz.func206 (by kernel_rfl) (by kernel_rfl) (by kernel_rfl) .acquire (by kernel_rfl) a w
theorem releaseMerge (a : Addr) (w : World) : (callFunc 208 #[.pointer (some a)]).run Tryz.prog w = .ok (.value (.tuple #[])) w := run_call_marked Tryz.func208 (by kernel_rfl) (by kernel_rfl) (by kernel_rfl) .releaseMerge (by kernel_rfl) a w
set_option maxHeartbeats 1600000 in
set_option maxRecDepth 100000 in
/-- Store(true), entered as a deferred call. -/
theorem store_deferred (a : Addr) (x : Value) (u : FrameMode) (w : World) (hc : w.cell? a = some x) (hz : w.frozen? a = false) :
    CallsD Tryz.prog 182 #[.pointer (some a), .bool true] u w fun e u' w' => u' = u ∧ (e = .returned (.tuple #[]) ∧ w' = w.drew.setCell a (.int .u32 1)) := by
  have hc' : w.drew.cell? a = some x := by go_simp
  have hz' : w.drew.frozen? a = false := by go_simp
  have hst := run_call_store (P := Tryz.prog) Tryz.func198 (by kernel_rfl) (by kernel_rfl) (by kernel_rfl) (by kernel_rfl) (k := .u32) (y := 1) hc' hz'
  go_enter_d Tryz.func182, Tryz.ntmps182
  go_wp2
  go_region_calls
  all_goals (go_end0; exact ⟨rfl, rfl⟩)
set_option maxHeartbeats 1600000 in
set_option maxRecDepth 100000 in
/-- Unlock, entered as a deferred call, the lock held and nobody waiting. -/
theorem unlock_deferred (a : Addr) (u : FrameMode) (w : World) (hc : w.cell? a = some (.int .i32 1)) (hz : w.frozen? a = false) :
    CallsD Tryz.prog 181 #[.pointer (some a)] u w fun e u' w' => u' = u ∧ (e = .returned (.tuple #[]) ∧ w' = w.setCell a (.int .i32 0)) := by
  have hd := disable
  have he := enable
  have hr := releaseMerge
  have hadd := run_call_add (P := Tryz.prog) Tryz.func209 (by kernel_rfl) (by kernel_rfl) (by kernel_rfl) .i32 (by kernel_rfl) (y := -1) (s := 0) hc hz (by simp [go_sem]; rfl)
  have hcv := run_convert_to_unsafe (P := Tryz.prog) (src := 279) (dst := 212) Tryz.underlying279 Tryz.underlying212 (by kernel_rfl) hc
  go_enter_d Tryz.func181, Tryz.ntmps181
  go_wp2
  go_end0
  all_goals first | exact ⟨rfl, rfl⟩ | (go_wp2; go_end0; exact ⟨rfl, rfl⟩)
set_option maxHeartbeats 1600000 in
set_option maxRecDepth 100000 in
/-- Lock, the lock free. -/
theorem lock_free (a : Addr) (w : World) (hc : w.cell? a = some (.int .i32 0)) (hz : w.frozen? a = false) :
    Calls Tryz.prog 180 #[.pointer (some a)] w fun e w' => e = .returned (.tuple #[]) ∧ w' = w.setCell a (.int .i32 1) := by
  have hd := disable
  have he := enable
  have ha := acquire
  have hcas := run_call_cas_hit (P := Tryz.prog) Tryz.func204 (by kernel_rfl) (by kernel_rfl) (by kernel_rfl) .i32 (by kernel_rfl) (y := 1) hc hz
  have hc' : (w.setCell a (.int .i32 1)).cell? a = some (.int .i32 1) := World.cell?_setCell_same w a _ hc
  have hcv := run_convert_to_unsafe (P := Tryz.prog) (src := 279) (dst := 212) Tryz.underlying279 Tryz.underlying212 (by kernel_rfl) hc'
  go_enter Tryz.func180, Tryz.ntmps180
  go_wp2
  first | go_end0 | (simp only [Exit.inBlock, Exit.then]; refine bodyPost_ret (results_none rfl _ _ _) rfl ?_) | refine bodyPost_ret (results_none rfl _ _ _) rfl ?_
  all_goals first | exact ⟨rfl, rfl⟩ | (go_wp2; go_end0; exact ⟨rfl, rfl⟩)
end Go.Proofs.YtjmplhkdohlbcaaGreatDoor.Rep
/-
  The replacer: sync.Once, not yet done.
-/
namespace Go.Proofs.YtjmplhkdohlbcaaGreatDoor.Rep
open Go.RowKit Go.Gh
set_option linter.unusedVariables false
set_option linter.unusedSimpArgs false
/-- What the once's function leaves. -/
def FPost (B : Nat) (Φ : World → Prop) (e : Ending) (w' : World) : Prop := e = .returned (.tuple #[]) ∧ w'.cell? ⟨B, 0, none⟩ = some (.int .u32 0) ∧ w'.cell? ⟨B, 1, none⟩ = some (.int .i32 1) ∧ w'.frozen? ⟨B, 0, none⟩ = false ∧ w'.frozen? ⟨B, 1, none⟩ = false ∧ Φ w'
set_option maxRecDepth 100000 in
theorem load_no (a : Addr) (w : World) (h : w.cell? a = some (.int .u32 0)) : Calls Tryz.prog 155 #[.pointer (some a)] w fun e w' => e = .returned (.bool false) ∧ w' = w := by
  have hl := run_call_load (P := Tryz.prog) Tryz.func179 (by kernel_rfl) (by kernel_rfl) (by kernel_rfl) .u32 (by kernel_rfl) h
  go_enter Tryz.func155, Tryz.ntmps155
  go_wp2
  go_ret
  exact ⟨rfl, rfl⟩
set_option maxRecDepth 100000 in
set_option maxHeartbeats 4000000 in
theorem slow_any (B : Nat) (Φ : World → Prop) (w : World) (hf : Calls Tryz.prog 123 #[.pointer (some ⟨B, 0, none⟩)] (w.setCell ⟨B, 1, none⟩ (.int .i32 1)) (FPost B Φ))
    (h0 : w.cell? ⟨B, 0, none⟩ = some (.int .u32 0)) (h1 : w.cell? ⟨B, 1, none⟩ = some (.int .i32 0)) (f0 : w.frozen? ⟨B, 0, none⟩ = false) (f1 : w.frozen? ⟨B, 1, none⟩ = false) :
    Calls Tryz.prog 156 #[.pointer (some ⟨B, 0, none⟩), .func (.func 123) #[.pointer (some ⟨B, 0, none⟩)] #[]] w fun e w'' => e = .returned (.tuple #[]) ∧
      ∃ w', Φ w' ∧ w'' = (w'.drew.setCell ⟨B, 0, none⟩ (.int .u32 1)).setCell ⟨B, 1, none⟩ (.int .i32 0) := by
  have hnot : ∀ (x : Bool) (w : World), (Op.unary .not (.bool x)).run Tryz.prog w = .ok (.bool (!x)) w := fun _ _ => rfl
  have HF := Lib.hid hf
  clear hf
  go_enter_defers Tryz.func156, Tryz.ntmps156
  go_wp2_with (go_at_call 180; refine (lock_free ⟨B, 1, none⟩ _ (by go_simp) (by go_simp)).mono ?_; rintro e w' ⟨rfl, rfl⟩)
  refine (load_no ⟨B, 0, none⟩ _ ((World.cell?_setCell_other _ ⟨B, 1, none⟩ ⟨B, 0, none⟩ _ (by simp)).trans h0)).mono ?_
  rintro e w1 ⟨rfl, rfl⟩
  go_wp2_with (go_at_call 123; refine HF.out.mono ?_; rintro e w2 ⟨rfl, q0, q1, g0, g1, hΦ⟩)
  have HΦ := Lib.hid hΦ
  clear hΦ
  try go_wp2
  refine leaves_cons (f := 182) (args := #[.pointer (some ⟨B, 0, none⟩), .bool true]) (by simp) (by simp [go_sem]) ?_
  refine (store_deferred ⟨B, 0, none⟩ (.int .u32 0) .returning _ q0 g0).mono ?_
  rintro e u' w'' ⟨rfl, rfl, rfl⟩
  refine leaves_cons (f := 181) (args := #[.pointer (some ⟨B, 1, none⟩)]) (by simp [settle]) (by simp [go_sem]) ?_
  refine (unlock_deferred ⟨B, 1, none⟩ _ _ ?_ (by simp [g1])).mono ?_
  · refine (World.cell?_setCell_other _ ⟨B, 0, none⟩ ⟨B, 1, none⟩ _ (by simp)).trans ?_
    rw [World.cell?_drew]
    exact q1
  rintro e u' w'' ⟨rfl, rfl, rfl⟩
  simp [Leaves, settle, results, Tryz.results156]
  exact ⟨w2, HΦ.out, rfl⟩
set_option maxRecDepth 100000 in
set_option maxHeartbeats 4000000 in
theorem do_any (B : Nat) (Φ : World → Prop) (w : World) (hf : Calls Tryz.prog 123 #[.pointer (some ⟨B, 0, none⟩)] (w.setCell ⟨B, 1, none⟩ (.int .i32 1)) (FPost B Φ))
    (h0 : w.cell? ⟨B, 0, none⟩ = some (.int .u32 0)) (h1 : w.cell? ⟨B, 1, none⟩ = some (.int .i32 0)) (f0 : w.frozen? ⟨B, 0, none⟩ = false) (f1 : w.frozen? ⟨B, 1, none⟩ = false) :
    Calls Tryz.prog 122 #[.pointer (some ⟨B, 0, none⟩), .func (.func 123) #[.pointer (some ⟨B, 0, none⟩)] #[]] w fun e w'' => e = .returned (.tuple #[]) ∧
      ∃ w', Φ w' ∧ w'' = (w'.drew.setCell ⟨B, 0, none⟩ (.int .u32 1)).setCell ⟨B, 1, none⟩ (.int .i32 0) := by
  have HF := Lib.hid (slow_any B Φ w hf h0 h1 f0 f1)
  have hnot : ∀ (x : Bool) (w : World), (Op.unary .not (.bool x)).run Tryz.prog w = .ok (.bool (!x)) w := fun _ _ => rfl
  clear hf
  go_enter Tryz.func122, Tryz.ntmps122
  go_wp2_with (first
    | (go_at_call 155; refine (load_no ⟨B, 0, none⟩ _ h0).mono ?_; rintro e w1 ⟨rfl, rfl⟩)
    | (go_at_call 156; refine HF.out.mono ?_; rintro e w1 ⟨rfl, w', hΦ, rfl⟩))
  go_end0
  exact ⟨rfl, w', hΦ, rfl⟩
end Go.Proofs.YtjmplhkdohlbcaaGreatDoor.Rep
/-
  The replacer: build: a table of 256 replacements.
-/
namespace Go.Proofs.YtjmplhkdohlbcaaGreatDoor.Rep
open Go.RowKit Go.Gh
set_option linter.unusedVariables false
set_option linter.unusedSimpArgs false
theorem infoStr : (Tryz.prog.info? 9).map (fun i => (i.zero, i.size, i.bytes)) = some (some (.string ⟨#[]⟩), 1, 16) := by kernel_rfl
theorem elStr : Elem Tryz.prog 35 9 1 16 := elem_of Tryz.underlying35 infoStr rfl (by decide)
def bsC (v : Value) : Array Value := (Array.replicate 256 (Value.slice none 0 0)).push v
theorem bsC_size (v : Value) : (bsC v).size = 257 := by unfold bsC; simp
theorem bsC_one (v : Value) (h : v.oneCell' = true) : (bsC v).all (·.oneCell') = true := by
  unfold bsC
  rw [Array.all_push]
  rw [Bool.and_eq_true]
  refine ⟨?_, h⟩
  rw [Array.all_eq_true]
  intro i hi
  simp [Array.getElem_replicate]
  rfl
theorem set_last (l : List Value) (n : Nat) (a v : Value) (h : l.length = n) : (l ++ [a]).set n v = l ++ [v] := by
  subst h
  simp
theorem bsC_set (a v : Value) : (bsC a).toList.set 256 v = (bsC v).toList := by
  unfold bsC
  rw [Array.toList_push, Array.toList_push, set_last _ 256 _ _ (by rw [Array.length_toList, Array.size_replicate])]
theorem infoBs : (Tryz.prog.info? 246).map (fun i => (i.zero, i.size)) = some (some (.agg (bsC (.slice none 0 0))), 257) := by kernel_rfl
theorem builtBs (v : Option Addr) (n c : Nat) : Tryz.prog.built 246 [(1, .slice v n c)] = some (bsC (.slice v n c)) := by kernel_rfl
end Go.Proofs.YtjmplhkdohlbcaaGreatDoor.Rep
