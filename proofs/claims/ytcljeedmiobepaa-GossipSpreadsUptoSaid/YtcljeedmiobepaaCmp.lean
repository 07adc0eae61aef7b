/-
  The walks of cmp.Compare at int64, int, uint64; slices.Compare at []uint64; cmp.Or at int; slices.Clone at []uint64.
-/
import Derived.Test.YtcljeedmiobepaaNd1
import Derived.Lib.SmallJoins
import Derived.Lib.SliceRun
namespace Go.Proofs.Ytcljeedmiobepaa.Nod
open Go.RowKit Go.Gh
set_option linter.unusedVariables false
theorem nan_i64 (x : Int) (w : World) : Calls Try.prog 157 #[.int .i64 x] w fun e w' => e = .returned (.bool false) ∧ w = w' := by
  have h : (x != x) = false := by simp
  go_enter Try.func157, Try.ntmps157
  go_wp2
  go_ret
  exact ⟨rfl, rfl⟩
theorem nan_int (x : Int) (w : World) : Calls Try.prog 158 #[.int .i64 x] w fun e w' => e = .returned (.bool false) ∧ w = w' := by
  have h : (x != x) = false := by simp
  go_enter Try.func158, Try.ntmps158
  go_wp2
  go_ret
  exact ⟨rfl, rfl⟩
theorem nan_u64 (x : Int) (w : World) : Calls Try.prog 199 #[.int .u64 x] w fun e w' => e = .returned (.bool false) ∧ w = w' := by
  have h : (x != x) = false := by simp
  go_enter Try.func199, Try.ntmps199
  go_wp2
  go_ret
  exact ⟨rfl, rfl⟩
theorem cmp_i64 (x y : Int) (w : World) : Calls Try.prog 104 #[.int .i64 x, .int .i64 y] w fun e w' => e = .returned (.int .i64 (cmpI x y)) ∧ w = w' := by
  obtain ⟨C, hC⟩ : ∃ C, cmpI x y = C := ⟨_, rfl⟩
  rw [hC]
  unfold cmpI at hC
  go_enter Try.func104, Try.ntmps104
  rcases Int.lt_trichotomy x y with h | h | h
  · rw [if_pos h] at hC
    subst hC
    go_wp2_with (go_at_call 157; refine (nan_i64 _ _).mono ?_; rintro e w' ⟨rfl, rfl⟩)
    go_ret
    exact ⟨rfl, rfl⟩
  · subst h
    rw [if_neg (by omega), if_neg (by omega)] at hC
    subst hC
    go_wp2_with (go_at_call 157; refine (nan_i64 _ _).mono ?_; rintro e w' ⟨rfl, rfl⟩)
    go_ret
    exact ⟨rfl, rfl⟩
  · rw [if_neg (by omega), if_pos h] at hC
    subst hC
    have h2 : ¬ x < y := by omega
    go_wp2_with (go_at_call 157; refine (nan_i64 _ _).mono ?_; rintro e w' ⟨rfl, rfl⟩)
    go_ret
    exact ⟨rfl, rfl⟩
theorem cmp_int (x y : Int) (w : World) : Calls Try.prog 105 #[.int .i64 x, .int .i64 y] w fun e w' => e = .returned (.int .i64 (cmpI x y)) ∧ w = w' := by
  obtain ⟨C, hC⟩ : ∃ C, cmpI x y = C := ⟨_, rfl⟩
  rw [hC]
  unfold cmpI at hC
  go_enter Try.func105, Try.ntmps105
  rcases Int.lt_trichotomy x y with h | h | h
  · rw [if_pos h] at hC
    subst hC
    go_wp2_with (go_at_call 158; refine (nan_int _ _).mono ?_; rintro e w' ⟨rfl, rfl⟩)
    go_ret
    exact ⟨rfl, rfl⟩
  · subst h
    rw [if_neg (by omega), if_neg (by omega)] at hC
    subst hC
    go_wp2_with (go_at_call 158; refine (nan_int _ _).mono ?_; rintro e w' ⟨rfl, rfl⟩)
    go_ret
    exact ⟨rfl, rfl⟩
  · rw [if_neg (by omega), if_pos h] at hC
    subst hC
    have h2 : ¬ x < y := by omega
    go_wp2_with (go_at_call 158; refine (nan_int _ _).mono ?_; rintro e w' ⟨rfl, rfl⟩)
    go_ret
    exact ⟨rfl, rfl⟩
theorem cmp_u64 (x y : Int) (w : World) : Calls Try.prog 159 #[.int .u64 x, .int .u64 y] w fun e w' => e = .returned (.int .i64 (cmpI x y)) ∧ w = w' := by
  obtain ⟨C, hC⟩ : ∃ C, cmpI x y = C := ⟨_, rfl⟩
  rw [hC]
  unfold cmpI at hC
  go_enter Try.func159, Try.ntmps159
  rcases Int.lt_trichotomy x y with h | h | h
  · rw [if_pos h] at hC
    subst hC
    go_wp2_with (go_at_call 199; refine (nan_u64 _ _).mono ?_; rintro e w' ⟨rfl, rfl⟩)
    go_ret
    exact ⟨rfl, rfl⟩
  · subst h
    rw [if_neg (by omega), if_neg (by omega)] at hC
    subst hC
    go_wp2_with (go_at_call 199; refine (nan_u64 _ _).mono ?_; rintro e w' ⟨rfl, rfl⟩)
    go_ret
    exact ⟨rfl, rfl⟩
  · rw [if_neg (by omega), if_pos h] at hC
    subst hC
    have h2 : ¬ x < y := by omega
    go_wp2_with (go_at_call 199; refine (nan_u64 _ _).mono ?_; rintro e w' ⟨rfl, rfl⟩)
    go_ret
    exact ⟨rfl, rfl⟩
theorem cmpT_step {x y : List Int} {k : Nat} (hx : k < x.length) (hy : k < y.length) : cmpT (x.drop k) (y.drop k) = if cmpI (x.getD k 0) (y.getD k 0) ≠ 0 then cmpI (x.getD k 0) (y.getD k 0) else cmpT (x.drop (k + 1)) (y.drop (k + 1)) := by
  rw [List.drop_eq_getElem_cons hx, List.drop_eq_getElem_cons hy, cmpT, List.getD_eq_getElem?_getD, List.getD_eq_getElem?_getD, List.getElem?_eq_getElem hx, List.getElem?_eq_getElem hy]
  unfold cmpI
  simp only [Option.getD_some]
  by_cases h : x[k] < y[k]
  · simp [h]
  · by_cases h2 : y[k] < x[k]
    · simp [h, h2]
    · simp [h, h2]
theorem cmpT_left {x y : List Int} {k : Nat} (hx : k < x.length) (hy : y.length ≤ k) : cmpT (x.drop k) (y.drop k) = 1 := by
  rw [List.drop_eq_getElem_cons hx, List.drop_of_length_le hy, cmpT]
theorem cmpT_right {x y : List Int} {k : Nat} (hx : x.length ≤ k) (hy : k < y.length) : cmpT (x.drop k) (y.drop k) = -1 := by
  rw [List.drop_eq_getElem_cons hy, List.drop_of_length_le hx, cmpT]
theorem cmpT_end {x y : List Int} {k : Nat} (hx : x.length ≤ k) (hy : y.length ≤ k) : cmpT (x.drop k) (y.drop k) = 0 := by
  rw [List.drop_of_length_le hy, List.drop_of_length_le hx, cmpT]
set_option maxRecDepth 100000 in
theorem compare_any (v u : Value) (x y : List Int) (w : World) (hv : Toks w v x) (hu : Toks w u y) : Calls Try.prog 106 #[v, u] w fun e w' => e = .returned (.int .i64 (cmpT x y)) ∧ w = w' := by
  obtain ⟨C, hC⟩ : ∃ C, cmpT x y = C := ⟨_, rfl⟩
  rw [hC]
  have HC : Hid (C = cmpT (x.drop 0) (y.drop 0)) := Lib.hid hC.symm
  obtain ⟨ao, c, rfl, hnc, hc, -⟩ := hv.1.shape
  obtain ⟨bo, d, rfl, hmc, hd, -⟩ := hu.1.shape
  have HV := Lib.hid hv
  have HU := Lib.hid hu
  obtain ⟨n, hn⟩ : ∃ n, x.length = n := ⟨_, rfl⟩
  obtain ⟨m, hm⟩ : ∃ m, y.length = m := ⟨_, rfl⟩
  have HN := Lib.hid hn
  have HM := Lib.hid hm
  rw [hn] at HV hnc ⊢
  rw [hm] at HU hmc ⊢
  clear hC hv hu hn hm
  go_enter Try.func106, Try.ntmps106
  go_wp2
  go_loop [11] (fun i => ∃ k : Nat, k ≤ n ∧ k ≤ m ∧ i = .int .i64 k ∧ Hid (C = cmpT (x.drop k) (y.drop k))) (fun i => n - (intOf i).toNat)
  case atStart => exact ⟨0, Nat.zero_le _, Nat.zero_le _, rfl, HC⟩
  case round =>
    obtain ⟨k, hk, hkm, rfl, HK⟩ := hrel
    by_cases hlt : k < n
    case neg =>
      obtain rfl : k = n := by omega
      by_cases hm2 : k < m
      · have h1 : C = -1 := by rw [HK.out]; exact cmpT_right (by rw [HN.out]; exact Nat.le_refl _) (by rw [HM.out]; exact hm2)
        subst h1
        go_wp2
        go_ret
        exact ⟨rfl, rfl⟩
      · have h1 : C = 0 := by rw [HK.out]; exact cmpT_end (by rw [HN.out]; exact Nat.le_refl _) (by rw [HM.out]; omega)
        subst h1
        go_wp2
        go_ret
        exact ⟨rfl, rfl⟩
    obtain ⟨b1, o1, rfl, c1⟩ := HV.out.at (i := k) (by rw [HN.out]; exact hlt)
    by_cases hm2 : k < m
    case neg =>
      have h1 : C = 1 := by rw [HK.out]; exact cmpT_left (by rw [HN.out]; exact hlt) (by rw [HM.out]; omega)
      subst h1
      generalize x.getD k 0 = p at *
      go_wp2
      go_ret
      exact ⟨rfl, rfl⟩
    obtain ⟨b2, o2, rfl, c2⟩ := HU.out.at (i := k) (by rw [HM.out]; exact hm2)
    have hst := cmpT_step (x := x) (y := y) (k := k) (by rw [HN.out]; exact hlt) (by rw [HM.out]; exact hm2)
    rw [← HK.out] at hst
    generalize x.getD k 0 = p at *
    generalize y.getD k 0 = q at *
    obtain ⟨E, hE⟩ : ∃ E, cmpI p q = E := ⟨_, rfl⟩
    rw [hE] at hst
    have HE := Lib.hid hE
    clear hE
    by_cases he : E = 0
    · have HK2 : Hid (C = cmpT (x.drop (k + 1)) (y.drop (k + 1))) := Lib.hid (by rw [hst, if_neg (by simpa using he)])
      have t1 : (E != 0) = false := by rw [he]; rfl
      clear hst he HK
      go_wp2_with (go_at_call 159; refine (cmp_u64 _ _ _).mono ?_; rw [HE.out]; rintro e w' ⟨rfl, rfl⟩)
      go_round
      case rel => exact ⟨k + 1, by omega, by omega, by go_num, HK2⟩
      case measure => simp [intOf]; omega
    · have h1 : C = E := by rw [hst, if_pos he]
      have t1 : (E != 0) = true := by rw [bne_iff_ne]; exact he
      clear hst he
      subst h1
      go_wp2_with (go_at_call 159; refine (cmp_u64 _ _ _).mono ?_; rw [HE.out]; rintro e w' ⟨rfl, rfl⟩)
      go_ret
      exact ⟨rfl, rfl⟩
/-- The first of three that is not 0. -/
def or3 (a b c : Int) : Int := if a ≠ 0 then a else if b ≠ 0 then b else c
theorem or_any (b : Nat) (x y z : Int) (w : World) (c0 : w.cell? ⟨b, 0, none⟩ = some (.int .i64 x)) (c1 : w.cell? ⟨b, 1, none⟩ = some (.int .i64 y)) (c2 : w.cell? ⟨b, 2, none⟩ = some (.int .i64 z)) :
    Calls Try.prog 103 #[.slice (some ⟨b, 0, none⟩) 3 3] w fun e w' => e = .returned (.int .i64 (or3 x y z)) ∧ w = w' := by
  obtain ⟨C, hC⟩ : ∃ C, or3 x y z = C := ⟨_, rfl⟩
  rw [hC]
  unfold or3 at hC
  have HC := Lib.hid hC
  clear hC
  go_enter Try.func103, Try.ntmps103
  go_wp2
  go_loop [8] (fun i => ∃ k : Int, (k = 0 ∨ k = 1 ∨ k = 2 ∨ k = 3) ∧ i = .int .i64 k ∧ Hid ((1 ≤ k → x = 0) ∧ (2 ≤ k → y = 0) ∧ (3 ≤ k → z = 0))) (fun i => 3 - (intOf i).toNat)
  case atStart => exact ⟨0, Or.inl rfl, rfl, Lib.hid ⟨fun h => by omega, fun h => by omega, fun h => by omega⟩⟩
  case round =>
    obtain ⟨k, hk, rfl, HK⟩ := hrel
    obtain ⟨k1, k2, k3⟩ := HK.out
    have HC1 := HC.out
    rcases hk with rfl | rfl | rfl | rfl
    · clear k1 k2 k3
      by_cases hx : x = 0
      · have t1 : (x != 0) = false := by rw [hx]; rfl
        have HK2 : Hid ((1 ≤ (1 : Int) → x = 0) ∧ (2 ≤ (1 : Int) → y = 0) ∧ (3 ≤ (1 : Int) → z = 0)) := Lib.hid ⟨fun _ => hx, fun h => by omega, fun h => by omega⟩
        clear hx HC1
        go_wp2
        go_round
        case rel => exact ⟨1, Or.inr (Or.inl rfl), rfl, HK2⟩
        case measure => simp [intOf]
      · have t1 : (x != 0) = true := by rw [bne_iff_ne]; exact hx
        have h1 : C = x := by rw [← HC1, if_pos hx]
        clear hx HC1
        subst h1
        go_wp2
        go_ret
        exact ⟨rfl, rfl⟩
    · have hx := k1 (by omega)
      clear k1 k2 k3
      by_cases hy : y = 0
      · have t1 : (y != 0) = false := by rw [hy]; rfl
        have HK2 : Hid ((1 ≤ (2 : Int) → x = 0) ∧ (2 ≤ (2 : Int) → y = 0) ∧ (3 ≤ (2 : Int) → z = 0)) := Lib.hid ⟨fun _ => hx, fun h => hy, fun h => by omega⟩
        clear hx hy HC1
        go_wp2
        go_round
        case rel => exact ⟨2, Or.inr (Or.inr (Or.inl rfl)), rfl, HK2⟩
        case measure => simp [intOf]
      · have t1 : (y != 0) = true := by rw [bne_iff_ne]; exact hy
        have h1 : C = y := by rw [← HC1, if_neg (by simpa using hx), if_pos hy]
        clear hx hy HC1
        subst h1
        go_wp2
        go_ret
        exact ⟨rfl, rfl⟩
    · have hx := k1 (by omega)
      have hy := k2 (by omega)
      clear k1 k2 k3
      by_cases hz : z = 0
      · have t1 : (z != 0) = false := by rw [hz]; rfl
        have HK2 : Hid ((1 ≤ (3 : Int) → x = 0) ∧ (2 ≤ (3 : Int) → y = 0) ∧ (3 ≤ (3 : Int) → z = 0)) := Lib.hid ⟨fun _ => hx, fun h => hy, fun h => hz⟩
        clear hx hy hz HC1
        go_wp2
        go_round
        case rel => exact ⟨3, Or.inr (Or.inr (Or.inr rfl)), rfl, HK2⟩
        case measure => simp [intOf]
      · have t1 : (z != 0) = true := by rw [bne_iff_ne]; exact hz
        have h1 : C = z := by rw [← HC1, if_neg (by simpa using hx), if_neg (by simpa using hy)]
        clear hx hy hz HC1
        subst h1
        go_wp2
        go_ret
        exact ⟨rfl, rfl⟩
    · have hx := k1 (by omega)
      have hy := k2 (by omega)
      have hz := k3 (by omega)
      have h1 : C = 0 := by rw [← HC1, if_neg (by simpa using hx), if_neg (by simpa using hy), hz]
      clear k1 k2 k3 HC1 hx hy hz
      subst h1
      go_wp2
      go_ret
      exact ⟨rfl, rfl⟩
theorem ints_one (k : IntKind) (l : List Int) : ∀ u ∈ l.map (Value.int k), u.oneCell' = true := by
  intro u hu; simp at hu; obtain ⟨z, _, rfl⟩ := hu; rfl
theorem clone_u64 (v : Value) (n : Nat) (l : List Int) (w : World) (hv : Sl w 1 v n (l.map (Value.int .u64))) (hn : n ≤ 1000000) :
    Calls Try.prog 108 #[v] w fun e w' => ∃ v', e = .returned v' ∧ w'.ownsRow w.heap.size 99 1 v' n (l.map (Value.int .u64)) ∧ Below w.heap.size w w' := by
  obtain ⟨ao, c, rfl, hnc, hc, hlen⟩ := hv.shape
  have HN := Lib.hid hn
  clear hn
  cases ao with
  | none =>
    have hn0 : n = 0 := by
      obtain ⟨ao', cap, h1, h2, _, h4, _, h6⟩ := hv
      simp at h1
      have := h4 h1.1.symm
      omega
    subst hn0
    have hl : l = [] := by simpa using hlen
    subst hl
    have he := Lib.run_eql_slice_nil (P := Try.prog) w 23 99 none 0 c 0 0 Try.underlying23
    go_enter Try.func108, Try.ntmps108
    go_wp2_with fail
    go_ret
    exact ⟨_, rfl, World.ownsRow_nil _ _ _ _, Below.refl _ _⟩
  | some a =>
    have he := Lib.run_eql_slice_nil (P := Try.prog) w 23 99 (some a) n c 0 0 Try.underlying23
    have ho := own_build (e := 99) (size := 1) (n := 0) w [] (Nat.le_refl _) rfl (by decide)
    have hs2 := hv.alloc (Obj.cells ([] : List Value).toArray 99)
    clear hlen
    go_enter Try.func108, Try.ntmps108
    go_wp2_with (at_builtin; refine appendS elU64 rfl _ _ rfl ho ((Below.refl _ _).alloc (Nat.le_refl _) _) ?c1 rfl rfl hs2 (ints_one _ _) ?c2 ?c3 ?_)
    case c1 => simp
    case c2 => have := HN.out; omega
    case c3 => have := HN.out; omega
    intro v' w1 hown' hbel' _
    go_wp2
    go_ret
    exact ⟨v', rfl, by simpa using hown', hbel'⟩
end Go.Proofs.Ytcljeedmiobepaa.Nod
