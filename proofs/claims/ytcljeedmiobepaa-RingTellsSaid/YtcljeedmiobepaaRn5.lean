/-
  The walks of cmp.Compare at int64, int, uint64; slices.Compare at []uint64; cmp.Or at int; slices.Clone at []uint64.
-/
import Derived.Test.YtcljeedmiobepaaRn1
import Derived.Test.YtcljeedmiobepaaRn3
import Derived.Test.YtcljeedmiobepaaRn4
import Derived.Lib.SmallJoins
import Derived.Lib.SliceRun
import Derived.Deep.RegionHeld3
import Derived.Deep.QuietTactic
import Derived.BigQuiet
import Derived.Test.YtcljeedmiobepaaRows
namespace Go.Proofs.Ytcljeedmiobepaa.Nod
open Go.RowKit Go.Gh
set_option linter.unusedVariables false
theorem nan_i64 (x : Int) (w : World) : Calls Try.prog 157 #[.int .i64 x] w fun e w' => e = .returned (.bool false) ∧ w = w' := by
  have h : (x != x) = false := by simp
  go_enter Try.func157, Try.ntmps157
  go_wp2
  go_ret
  exact ⟨rfl, rfl⟩
theorem nan_int (x : Int) (w : World) : Calls Try.prog 158 #[.int .i64 x] w fun e w' => e = .returned (.bool false) ∧ w = w' := by
  have h : (x != x) = false := by simp
  go_enter Try.func158, Try.ntmps158
  go_wp2
  go_ret
  exact ⟨rfl, rfl⟩
theorem nan_u64 (x : Int) (w : World) : Calls Try.prog 199 #[.int .u64 x] w fun e w' => e = .returned (.bool false) ∧ w = w' := by
  have h : (x != x) = false := by simp
  go_enter Try.func199, Try.ntmps199
  go_wp2
  go_ret
  exact ⟨rfl, rfl⟩
theorem cmp_i64 (x y : Int) (w : World) : Calls Try.prog 104 #[.int .i64 x, .int .i64 y] w fun e w' => e = .returned (.int .i64 (cmpI x y)) ∧ w = w' := by
  obtain ⟨C, hC⟩ : ∃ C, cmpI x y = C := ⟨_, rfl⟩
  rw [hC]
  unfold cmpI at hC
  go_enter Try.func104, Try.ntmps104
  rcases Int.lt_trichotomy x y with h | h | h
  · rw [if_pos h] at hC
    subst hC
    go_wp2_with (go_at_call 157; refine (nan_i64 _ _).mono ?_; rintro e w' ⟨rfl, rfl⟩)
    go_ret
    exact ⟨rfl, rfl⟩
  · subst h
    rw [if_neg (by omega), if_neg (by omega)] at hC
    subst hC
    go_wp2_with (go_at_call 157; refine (nan_i64 _ _).mono ?_; rintro e w' ⟨rfl, rfl⟩)
    go_ret
    exact ⟨rfl, rfl⟩
  · rw [if_neg (by omega), if_pos h] at hC
    subst hC
    have h2 : ¬ x < y := by omega
    go_wp2_with (go_at_call 157; refine (nan_i64 _ _).mono ?_; rintro e w' ⟨rfl, rfl⟩)
    go_ret
    exact ⟨rfl, rfl⟩
theorem cmp_int (x y : Int) (w : World) : Calls Try.prog 105 #[.int .i64 x, .int .i64 y] w fun e w' => e = .returned (.int .i64 (cmpI x y)) ∧ w = w' := by
  obtain ⟨C, hC⟩ : ∃ C, cmpI x y = C := ⟨_, rfl⟩
  rw [hC]
  unfold cmpI at hC
  go_enter Try.func105, Try.ntmps105
  rcases Int.lt_trichotomy x y with h | h | h
  · rw [if_pos h] at hC
    subst hC
    go_wp2_with (go_at_call 158; refine (nan_int _ _).mono ?_; rintro e w' ⟨rfl, rfl⟩)
    go_ret
    exact ⟨rfl, rfl⟩
  · subst h
    rw [if_neg (by omega), if_neg (by omega)] at hC
    subst hC
    go_wp2_with (go_at_call 158; refine (nan_int _ _).mono ?_; rintro e w' ⟨rfl, rfl⟩)
    go_ret
    exact ⟨rfl, rfl⟩
  · rw [if_neg (by omega), if_pos h] at hC
    subst hC
    have h2 : ¬ x < y := by omega
    go_wp2_with (go_at_call 158; refine (nan_int _ _).mono ?_; rintro e w' ⟨rfl, rfl⟩)
    go_ret
    exact ⟨rfl, rfl⟩
theorem cmp_u64 (x y : Int) (w : World) : Calls Try.prog 159 #[.int .u64 x, .int .u64 y] w fun e w' => e = .returned (.int .i64 (cmpI x y)) ∧ w = w' := by
  obtain ⟨C, hC⟩ : ∃ C, cmpI x y = C := ⟨_, rfl⟩
  rw [hC]
  unfold cmpI at hC
  go_enter Try.func159, Try.ntmps159
  rcases Int.lt_trichotomy x y with h | h | h
  · rw [if_pos h] at hC
    subst hC
    go_wp2_with (go_at_call 199; refine (nan_u64 _ _).mono ?_; rintro e w' ⟨rfl, rfl⟩)
    go_ret
    exact ⟨rfl, rfl⟩
  · subst h
    rw [if_neg (by omega), if_neg (by omega)] at hC
    subst hC
    go_wp2_with (go_at_call 199; refine (nan_u64 _ _).mono ?_; rintro e w' ⟨rfl, rfl⟩)
    go_ret
    exact ⟨rfl, rfl⟩
  · rw [if_neg (by omega), if_pos h] at hC
    subst hC
    have h2 : ¬ x < y := by omega
    go_wp2_with (go_at_call 199; refine (nan_u64 _ _).mono ?_; rintro e w' ⟨rfl, rfl⟩)
    go_ret
    exact ⟨rfl, rfl⟩
theorem cmpT_step {x y : List Int} {k : Nat} (hx : k < x.length) (hy : k < y.length) : cmpT (x.drop k) (y.drop k) = if cmpI (x.getD k 0) (y.getD k 0) ≠ 0 then cmpI (x.getD k 0) (y.getD k 0) else cmpT (x.drop (k + 1)) (y.drop (k + 1)) := by
  rw [List.drop_eq_getElem_cons hx, List.drop_eq_getElem_cons hy, cmpT, List.getD_eq_getElem?_getD, List.getD_eq_getElem?_getD, List.getElem?_eq_getElem hx, List.getElem?_eq_getElem hy]
  unfold cmpI
  simp only [Option.getD_some]
  by_cases h : x[k] < y[k]
  · simp [h]
  · by_cases h2 : y[k] < x[k]
    · simp [h, h2]
    · simp [h, h2]
theorem cmpT_left {x y : List Int} {k : Nat} (hx : k < x.length) (hy : y.length ≤ k) : cmpT (x.drop k) (y.drop k) = 1 := by
  rw [List.drop_eq_getElem_cons hx, List.drop_of_length_le hy, cmpT]
theorem cmpT_right {x y : List Int} {k : Nat} (hx : x.length ≤ k) (hy : k < y.length) : cmpT (x.drop k) (y.drop k) = -1 := by
  rw [List.drop_eq_getElem_cons hy, List.drop_of_length_le hx, cmpT]
theorem cmpT_end {x y : List Int} {k : Nat} (hx : x.length ≤ k) (hy : y.length ≤ k) : cmpT (x.drop k) (y.drop k) = 0 := by
  rw [List.drop_of_length_le hy, List.drop_of_length_le hx, cmpT]
set_option maxRecDepth 100000 in
theorem compare_any (v u : Value) (x y : List Int) (w : World) (hv : Toks w v x) (hu : Toks w u y) : Calls Try.prog 106 #[v, u] w fun e w' => e = .returned (.int .i64 (cmpT x y)) ∧ w = w' := by
  obtain ⟨C, hC⟩ : ∃ C, cmpT x y = C := ⟨_, rfl⟩
  rw [hC]
  have HC : Hid (C = cmpT (x.drop 0) (y.drop 0)) := Lib.hid hC.symm
  obtain ⟨ao, c, rfl, hnc, hc, -⟩ := hv.1.shape
  obtain ⟨bo, d, rfl, hmc, hd, -⟩ := hu.1.shape
  have HV := Lib.hid hv
  have HU := Lib.hid hu
  obtain ⟨n, hn⟩ : ∃ n, x.length = n := ⟨_, rfl⟩
  obtain ⟨m, hm⟩ : ∃ m, y.length = m := ⟨_, rfl⟩
  have HN := Lib.hid hn
  have HM := Lib.hid hm
  rw [hn] at HV hnc ⊢
  rw [hm] at HU hmc ⊢
  clear hC hv hu hn hm
  go_enter Try.func106, Try.ntmps106
  go_wp2
  go_loop [11] (fun i => ∃ k : Nat, k ≤ n ∧ k ≤ m ∧ i = .int .i64 k ∧ Hid (C = cmpT (x.drop k) (y.drop k))) (fun i => n - (intOf i).toNat)
  case atStart => exact ⟨0, Nat.zero_le _, Nat.zero_le _, rfl, HC⟩
  case round =>
    obtain ⟨k, hk, hkm, rfl, HK⟩ := hrel
    by_cases hlt : k < n
    case neg =>
      obtain rfl : k = n := by omega
      by_cases hm2 : k < m
      · have h1 : C = -1 := by rw [HK.out]; exact cmpT_right (by rw [HN.out]; exact Nat.le_refl _) (by rw [HM.out]; exact hm2)
        subst h1
        go_wp2
        go_ret
        exact ⟨rfl, rfl⟩
      · have h1 : C = 0 := by rw [HK.out]; exact cmpT_end (by rw [HN.out]; exact Nat.le_refl _) (by rw [HM.out]; omega)
        subst h1
        go_wp2
        go_ret
        exact ⟨rfl, rfl⟩
    obtain ⟨b1, o1, rfl, c1⟩ := HV.out.at (i := k) (by rw [HN.out]; exact hlt)
    by_cases hm2 : k < m
    case neg =>
      have h1 : C = 1 := by rw [HK.out]; exact cmpT_left (by rw [HN.out]; exact hlt) (by rw [HM.out]; omega)
      subst h1
      generalize x.getD k 0 = p at *
      go_wp2
      go_ret
      exact ⟨rfl, rfl⟩
    obtain ⟨b2, o2, rfl, c2⟩ := HU.out.at (i := k) (by rw [HM.out]; exact hm2)
    have hst := cmpT_step (x := x) (y := y) (k := k) (by rw [HN.out]; exact hlt) (by rw [HM.out]; exact hm2)
    rw [← HK.out] at hst
    generalize x.getD k 0 = p at *
    generalize y.getD k 0 = q at *
    obtain ⟨E, hE⟩ : ∃ E, cmpI p q = E := ⟨_, rfl⟩
    rw [hE] at hst
    have HE := Lib.hid hE
    clear hE
    by_cases he : E = 0
    · have HK2 : Hid (C = cmpT (x.drop (k + 1)) (y.drop (k + 1))) := Lib.hid (by rw [hst, if_neg (by simpa using he)])
      have t1 : (E != 0) = false := by rw [he]; rfl
      clear hst he HK
      go_wp2_with (go_at_call 159; refine (cmp_u64 _ _ _).mono ?_; rw [HE.out]; rintro e w' ⟨rfl, rfl⟩)
      go_round
      case rel => exact ⟨k + 1, by omega, by omega, by go_num, HK2⟩
      case measure => simp [intOf]; omega
    · have h1 : C = E := by rw [hst, if_pos he]
      have t1 : (E != 0) = true := by rw [bne_iff_ne]; exact he
      clear hst he
      subst h1
      go_wp2_with (go_at_call 159; refine (cmp_u64 _ _ _).mono ?_; rw [HE.out]; rintro e w' ⟨rfl, rfl⟩)
      go_ret
      exact ⟨rfl, rfl⟩
/-- The first of three that is not 0. -/
def or3 (a b c : Int) : Int := if a ≠ 0 then a else if b ≠ 0 then b else c
theorem or_any (b : Nat) (x y z : Int) (w : World) (c0 : w.cell? ⟨b, 0, none⟩ = some (.int .i64 x)) (c1 : w.cell? ⟨b, 1, none⟩ = some (.int .i64 y)) (c2 : w.cell? ⟨b, 2, none⟩ = some (.int .i64 z)) :
    Calls Try.prog 103 #[.slice (some ⟨b, 0, none⟩) 3 3] w fun e w' => e = .returned (.int .i64 (or3 x y z)) ∧ w = w' := by
  obtain ⟨C, hC⟩ : ∃ C, or3 x y z = C := ⟨_, rfl⟩
  rw [hC]
  unfold or3 at hC
  have HC := Lib.hid hC
  clear hC
  go_enter Try.func103, Try.ntmps103
  go_wp2
  go_loop [8] (fun i => ∃ k : Int, (k = 0 ∨ k = 1 ∨ k = 2 ∨ k = 3) ∧ i = .int .i64 k ∧ Hid ((1 ≤ k → x = 0) ∧ (2 ≤ k → y = 0) ∧ (3 ≤ k → z = 0))) (fun i => 3 - (intOf i).toNat)
  case atStart => exact ⟨0, Or.inl rfl, rfl, Lib.hid ⟨fun h => by omega, fun h => by omega, fun h => by omega⟩⟩
  case round =>
    obtain ⟨k, hk, rfl, HK⟩ := hrel
    obtain ⟨k1, k2, k3⟩ := HK.out
    have HC1 := HC.out
    rcases hk with rfl | rfl | rfl | rfl
    · clear k1 k2 k3
      by_cases hx : x = 0
      · have t1 : (x != 0) = false := by rw [hx]; rfl
        have HK2 : Hid ((1 ≤ (1 : Int) → x = 0) ∧ (2 ≤ (1 : Int) → y = 0) ∧ (3 ≤ (1 : Int) → z = 0)) := Lib.hid ⟨fun _ => hx, fun h => by omega, fun h => by omega⟩
        clear hx HC1
        go_wp2
        go_round
        case rel => exact ⟨1, Or.inr (Or.inl rfl), rfl, HK2⟩
        case measure => simp [intOf]
      · have t1 : (x != 0) = true := by rw [bne_iff_ne]; exact hx
        have h1 : C = x := by rw [← HC1, if_pos hx]
        clear hx HC1
        subst h1
        go_wp2
        go_ret
        exact ⟨rfl, rfl⟩
    · have hx := k1 (by omega)
      clear k1 k2 k3
      by_cases hy : y = 0
      · have t1 : (y != 0) = false := by rw [hy]; rfl
        have HK2 : Hid ((1 ≤ (2 : Int) → x = 0) ∧ (2 ≤ (2 : Int) → y = 0) ∧ (3 ≤ (2 : Int) → z = 0)) := Lib.hid ⟨fun _ => hx, fun h => hy, fun h => by omega⟩
        clear hx hy HC1
        go_wp2
        go_round
        case rel => exact ⟨2, Or.inr (Or.inr (Or.inl rfl)), rfl, HK2⟩
        case measure => simp [intOf]
      · have t1 : (y != 0) = true := by rw [bne_iff_ne]; exact hy
        have h1 : C = y := by rw [← HC1, if_neg (by simpa using hx), if_pos hy]
        clear hx hy HC1
        subst h1
        go_wp2
        go_ret
        exact ⟨rfl, rfl⟩
    · have hx := k1 (by omega)
      have hy := k2 (by omega)
      clear k1 k2 k3
      by_cases hz : z = 0
      · have t1 : (z != 0) = false := by rw [hz]; rfl
        have HK2 : Hid ((1 ≤ (3 : Int) → x = 0) ∧ (2 ≤ (3 : Int) → y = 0) ∧ (3 ≤ (3 : Int) → z = 0)) := Lib.hid ⟨fun _ => hx, fun h => hy, fun h => hz⟩
        clear hx hy hz HC1
        go_wp2
        go_round
        case rel => exact ⟨3, Or.inr (Or.inr (Or.inr rfl)), rfl, HK2⟩
        case measure => simp [intOf]
      · have t1 : (z != 0) = true := by rw [bne_iff_ne]; exact hz
        have h1 : C = z := by rw [← HC1, if_neg (by simpa using hx), if_neg (by simpa using hy)]
        clear hx hy hz HC1
        subst h1
        go_wp2
        go_ret
        exact ⟨rfl, rfl⟩
    · have hx := k1 (by omega)
      have hy := k2 (by omega)
      have hz := k3 (by omega)
      have h1 : C = 0 := by rw [← HC1, if_neg (by simpa using hx), if_neg (by simpa using hy), hz]
      clear k1 k2 k3 HC1 hx hy hz
      subst h1
      go_wp2
      go_ret
      exact ⟨rfl, rfl⟩
theorem ints_one (k : IntKind) (l : List Int) : ∀ u ∈ l.map (Value.int k), u.oneCell' = true := by
  intro u hu; simp at hu; obtain ⟨z, _, rfl⟩ := hu; rfl
theorem clone_u64 (v : Value) (n : Nat) (l : List Int) (w : World) (hv : Sl w 1 v n (l.map (Value.int .u64))) (hn : n ≤ 1000000) :
    Calls Try.prog 108 #[v] w fun e w' => ∃ v', e = .returned v' ∧ w'.ownsRow w.heap.size 99 1 v' n (l.map (Value.int .u64)) ∧ Below w.heap.size w w' := by
  obtain ⟨ao, c, rfl, hnc, hc, hlen⟩ := hv.shape
  have HN := Lib.hid hn
  clear hn
  cases ao with
  | none =>
    have hn0 : n = 0 := by
      obtain ⟨ao', cap, h1, h2, _, h4, _, h6⟩ := hv
      simp at h1
      have := h4 h1.1.symm
      omega
    subst hn0
    have hl : l = [] := by simpa using hlen
    subst hl
    have he := Lib.run_eql_slice_nil (P := Try.prog) w 23 99 none 0 c 0 0 Try.underlying23
    go_enter Try.func108, Try.ntmps108
    go_wp2_with fail
    go_ret
    exact ⟨_, rfl, World.ownsRow_nil _ _ _ _, Below.refl _ _⟩
  | some a =>
    have he := Lib.run_eql_slice_nil (P := Try.prog) w 23 99 (some a) n c 0 0 Try.underlying23
    have ho := own_build (e := 99) (size := 1) (n := 0) w [] (Nat.le_refl _) rfl (by decide)
    have hs2 := hv.alloc (Obj.cells ([] : List Value).toArray 99)
    clear hlen
    go_enter Try.func108, Try.ntmps108
    go_wp2_with (at_builtin; refine appendS elU64 rfl _ _ rfl ho ((Below.refl _ _).alloc (Nat.le_refl _) _) ?c1 rfl rfl hs2 (ints_one _ _) ?c2 ?c3 ?_)
    case c1 => simp
    case c2 => have := HN.out; omega
    case c3 => have := HN.out; omega
    intro v' w1 hown' hbel' _
    go_wp2
    go_ret
    exact ⟨v', rfl, by simpa using hown', hbel'⟩
end Go.Proofs.Ytcljeedmiobepaa.Nod
/-
  Claims that are merged, both ways: as plain functions.
-/
namespace Go.Gh
open Go.RowKit
set_option linter.unusedVariables false
theorem merge_some (both : List Int → List Int → List Int) : ∀ (n : Nat) (a b : List (List Int)), a.length + b.length ≤ n → ∃ m, mergeF both bigC a b = some m
  | _, [], b, _ => ⟨b, by rw [mergeF]⟩
  | _, x :: a, [], _ => ⟨x :: a, by rw [mergeF]⟩
  | 0, x :: a, y :: b, h => by simp at h
  | n + 1, x :: a, y :: b, h => by
    simp only [List.length_cons] at h
    rcases (show rg x 0 < rg y 0 ∨ rg x 0 = rg y 0 ∨ rg y 0 < rg x 0 by omega) with h1 | h1 | h1
    · obtain ⟨m, hm⟩ := merge_some both n a (y :: b) (by simp only [List.length_cons]; omega)
      exact ⟨x :: m, by rw [merge_lt h1, hm]; rfl⟩
    · obtain ⟨m, hm⟩ := merge_some both n a b (by omega)
      exact ⟨both x y :: m, by rw [merge_eq h1 rfl, hm]; rfl⟩
    · obtain ⟨m, hm⟩ := merge_some both n (x :: a) b (by simp only [List.length_cons]; omega)
      exact ⟨y :: m, by rw [merge_gt h1, hm]; rfl⟩
/-- Both ways of merging give the same rows. -/
theorem merge_bes (E : Nat → Cl) {a b : List (List Int)} (ha : Asc a) (hb : Asc b) : ∃ m, mergeF (bothC E) bigC a b = some m ∧ (besF (bothC E) bigC a false b).1 = m := by
  obtain ⟨m, hm⟩ := merge_some (bothC E) (a.length + b.length) a b (Nat.le_refl _)
  refine ⟨m, hm, ?_⟩
  obtain ⟨_, h2⟩ := bes_merge (big := bigC) (bothC_key E) (a.length + b.length) a b (Nat.le_refl _) ha hb false
  rw [h2 m hm]
/-- One row of tokens stands behind another one in the order of rows. -/
def gtT : List Int → List Int → Bool
  | [], _ => false
  | _ :: _, [] => true
  | a :: x, b :: y => if a ≠ b then decide (b < a) else gtT x y
theorem gtT_eq : ∀ x y : List Int, gtT x y = decide (0 < cmpT x y)
  | [], [] => rfl
  | [], _ :: _ => rfl
  | _ :: _, [] => rfl
  | a :: x, b :: y => by
    rw [gtT, cmpT]
    rcases (show a < b ∨ a = b ∨ b < a by omega) with h | h | h
    · rw [if_pos (by omega), if_pos h, decide_eq_false (by omega)]
      rfl
    · subst h
      rw [if_neg (by omega), if_neg (by omega), if_neg (by omega)]
      exact gtT_eq x y
    · rw [if_pos (by omega), if_neg (by omega), if_pos h, decide_eq_true h]
      rfl
theorem newer_eq (a b : Cl) : newerC a b = if a.ver ≠ b.ver then decide (b.ver < a.ver) else if a.st ≠ b.st then decide (b.st < a.st) else gtT a.tk b.tk := by
  unfold newerC cmpC cmpI
  rcases (show a.ver < b.ver ∨ a.ver = b.ver ∨ b.ver < a.ver by omega) with h | h | h
  · rw [if_pos (show a.ver ≠ b.ver by omega)]
    simp only [h, if_true]
    rw [decide_eq_false (show ¬ b.ver < a.ver by omega)]
    rfl
  · rw [if_neg (show ¬ a.ver ≠ b.ver by omega)]
    rw [if_neg (show ¬ a.ver < b.ver by omega), if_neg (show ¬ b.ver < a.ver by omega)]
    simp only [ne_eq, not_true_eq_false, if_false]
    rcases (show a.st < b.st ∨ a.st = b.st ∨ b.st < a.st by omega) with h2 | h2 | h2
    · rw [if_pos (show ¬ a.st = b.st by omega)]
      simp only [h2, if_true]
      rw [decide_eq_false (show ¬ b.st < a.st by omega)]
      rfl
    · rw [if_neg (show ¬ ¬ a.st = b.st by omega)]
      rw [if_neg (show ¬ a.st < b.st by omega), if_neg (show ¬ b.st < a.st by omega)]
      simp only [not_true_eq_false, if_false]
      exact (gtT_eq _ _).symm
    · rw [if_pos (show ¬ a.st = b.st by omega)]
      rw [if_neg (show ¬ a.st < b.st by omega), if_pos h2, decide_eq_true h2]
      rfl
  · rw [if_pos (show a.ver ≠ b.ver by omega)]
    rw [if_neg (show ¬ a.ver < b.ver by omega), if_pos h, decide_eq_true h]
    rfl
end Go.Gh
/-
  The walks of claim.Newer and NewerThan.
-/
namespace Go.Proofs.Ytcljeedmiobepaa.Nod
open Go.RowKit Go.Gh
set_option linter.unusedVariables false
/-- A claim that is handed in by value. -/
def ClV (w : World) (v : Value) (x : Cl) : Prop := ∃ t, v = .agg #[.int .i64 x.ver, .int .i64 x.st, .string x.nm, t] ∧ Toks w t x.tk
theorem newer_or (a b : Cl) : newerC a b = decide (0 < or3 (cmpI a.ver b.ver) (cmpI a.st b.st) (cmpT a.tk b.tk)) := rfl
set_option maxHeartbeats 4000000 in
set_option maxRecDepth 100000 in
theorem newer_any (v u : Value) (a b : Cl) (w : World) (hv : ClV w v a) (hu : ClV w u b) : Calls Try.prog 18 #[v, u] w fun e w' => e = .returned (.bool (newerC a b)) ∧ Below w.heap.size w w' := by
  obtain ⟨ta, rfl, hta⟩ := hv
  obtain ⟨tb, rfl, htb⟩ := hu
  obtain ⟨av, sa, an, atk⟩ := a
  obtain ⟨bv, sb, bn, btk⟩ := b
  rw [newer_or]
  dsimp only at *
  obtain ⟨C1, hC1⟩ : ∃ C, cmpI av bv = C := ⟨_, rfl⟩
  obtain ⟨C2, hC2⟩ : ∃ C, cmpI sa sb = C := ⟨_, rfl⟩
  obtain ⟨C3, hC3⟩ : ∃ C, cmpT atk btk = C := ⟨_, rfl⟩
  rw [hC1, hC2, hC3]
  have HC1 := Lib.hid hC1
  have HC2 := Lib.hid hC2
  have HC3 := Lib.hid hC3
  obtain ⟨R, hR⟩ : ∃ R, or3 C1 C2 C3 = R := ⟨_, rfl⟩
  rw [hR]
  have HR := Lib.hid hR
  have HTA := Lib.hid hta
  have HTB := Lib.hid htb
  clear hC1 hC2 hC3 hR hta htb
  go_enter Try.func18, Try.ntmps18
  go_wp2_with fail
  obtain ⟨wA, hwA⟩ : ∃ wA, wA = (w.alloc (Obj.cells #[.int .i64 av, .int .i64 sa, .string an, ta] 27)).alloc (Obj.cells #[.int .i64 bv, .int .i64 sb, .string bn, tb] 27) := ⟨_, rfl⟩
  have hb1 : wA.heap[w.heap.size]? = some (.cells #[.int .i64 av, .int .i64 sa, .string an, ta] 27 (0, 0)) := by rw [hwA]; exact two_first w _ _
  have hb2 : wA.heap[w.heap.size + 1]? = some (.cells #[.int .i64 bv, .int .i64 sb, .string bn, tb] 27 (0, 0)) := by rw [hwA]; exact two_second w _ _
  have hBA : Below w.heap.size w wA := by rw [hwA]; exact ((Below.refl _ _).alloc (Nat.le_refl _) _).alloc (by simp) _
  rw [← hwA]
  have a0 : wA.cell? ⟨w.heap.size, 0, none⟩ = some (.int .i64 av) := (row_cell 0 _ hb1 rfl).1
  have a1 : wA.cell? ⟨w.heap.size, 1, none⟩ = some (.int .i64 sa) := (row_cell 1 _ hb1 rfl).1
  have a3 : wA.cell? ⟨w.heap.size, 3, none⟩ = some ta := (row_cell 3 _ hb1 rfl).1
  have b0 : wA.cell? ⟨w.heap.size + 1, 0, none⟩ = some (.int .i64 bv) := (row_cell 0 _ hb2 rfl).1
  have b1 : wA.cell? ⟨w.heap.size + 1, 1, none⟩ = some (.int .i64 sb) := (row_cell 1 _ hb2 rfl).1
  have b3 : wA.cell? ⟨w.heap.size + 1, 3, none⟩ = some tb := (row_cell 3 _ hb2 rfl).1
  have hdr : Below wA.heap.size wA wA.drew := (Below.refl _ _).drew
  have HTA1 : Hid (Toks wA.drew ta atk) := Lib.hid ((HTA.out.below hBA).below hdr)
  have HTB1 : Hid (Toks wA.drew tb btk) := Lib.hid ((HTB.out.below hBA).below hdr)
  have HBA := Lib.hid hBA
  have hsz := hBA.size
  clear hwA hBA hb1 hb2 hdr
  generalize hbx : w.heap.size = bx at *
  have HBX := Lib.hid hbx
  clear hbx
  go_region_held3 (fun w' => w'.cell? ⟨bx, 0, none⟩ = some (.int .i64 av) ∧ w'.cell? ⟨bx, 1, none⟩ = some (.int .i64 sa) ∧ w'.cell? ⟨bx, 3, none⟩ = some ta ∧ w'.cell? ⟨bx + 1, 0, none⟩ = some (.int .i64 bv) ∧ w'.cell? ⟨bx + 1, 1, none⟩ = some (.int .i64 sb) ∧ w'.cell? ⟨bx + 1, 3, none⟩ = some tb) (first | (with_reducible exact ⟨a0, a1, a3, b0, b1, b3⟩) | go_keep) (first
    | (go_at_call 104; refine (cmp_i64 _ _ _).mono ?_; rw [HC1.out]; rintro e w2 ⟨rfl, rfl⟩)
    | (go_at_call 105; refine (cmp_int _ _ _).mono ?_; rw [HC2.out]; rintro e w2 ⟨rfl, rfl⟩)
    | (go_at_call 106; refine (compare_any _ _ atk btk _ HTA1.out HTB1.out).mono ?_; rw [HC3.out]; rintro e w2 ⟨rfl, rfl⟩)
    | (go_at_call 103; refine (or_any _ C1 C2 C3 _ (by exact cell_new wA _ [_, _, _] 0 _ rfl) (by exact cell_new wA _ [_, _, _] 1 _ rfl) (by exact cell_new wA _ [_, _, _] 2 _ rfl)).mono ?_; rw [HR.out]; rintro e w2 ⟨rfl, rfl⟩))
  all_goals
    go_wp2_with fail
    go_ret
    exact ⟨rfl, by rw [HBX.out]; exact (HBA.out.alloc hsz _).drew⟩
end Go.Proofs.Ytcljeedmiobepaa.Nod
/-
  Counts: how they read.
-/
namespace Go.Proofs.Ytcljeedmiobepaa.Hv
open Go.RowKit Go.Gh Go.WideShapes Go.ChangeShapes Go.ChangeAt Go.Deep
set_option linter.unusedVariables false
theorem infoCt : (Try.prog.info? 175).map (fun i => (i.zero, i.size, i.bytes)) = some (some (.agg #[.string ByteArray.empty, .int .i64 0]), 2, 24) := by kernel_rfl
theorem elCt : Elem Try.prog 84 175 2 24 := elem_of Try.underlying84 infoCt rfl (by decide)
end Go.Proofs.Ytcljeedmiobepaa.Hv
/-
  Tallies of what is heavy: as plain functions.
-/
namespace Go.Gh
set_option linter.unusedVariables false
structure Ct where
  ky : ByteArray
  n : Int
instance : Inhabited Ct := ⟨⟨ByteArray.empty, 0⟩⟩
def sumN : List Ct → Int
  | [] => 0
  | x :: l => x.n + sumN l
theorem sumN_append : ∀ (a b : List Ct), sumN (a ++ b) = sumN a + sumN b
  | [], b => by simp [sumN]
  | x :: a, b => by rw [List.cons_append, sumN, sumN_append a b, sumN]; omega
theorem sumN_take {l : List Ct} {k : Nat} {x : Ct} (h : l[k]? = some x) : sumN (l.take (k + 1)) = sumN (l.take k) + x.n := by
  obtain ⟨h1, h2⟩ := List.getElem?_eq_some_iff.1 h
  rw [List.take_succ_eq_append_getElem h1, h2, sumN_append, sumN, sumN]
  omega
/-- Does the one ahead have the lesser key? -/
def preB (l : List Ct) (k : Nat) (x : Ct) : Bool := match k with
  | 0 => true
  | i + 1 => match l[i]? with
    | none => true
    | some q => Op.bytesLess q.ky.toList x.ky.toList
theorem preB_succ {l : List Ct} {k : Nat} {x q : Ct} (h : l[k]? = some q) : preB l (k + 1) x = Op.bytesLess q.ky.toList x.ky.toList := by
  unfold preB
  simp only [h]
def headH (K : Int) (len : Nat) (N off : Int) : Bool := decide (1 ≤ K) && (decide (K ≤ 64) && (decide ((len : Int) ≤ K) && (decide (0 ≤ N) && (decide (N ≤ 1000000000) && (decide (0 ≤ off) && decide (off ≤ N))))))
theorem headH_ok {K : Int} {len : Nat} {N off : Int} : headH K len N off = true ↔ (1 ≤ K ∧ K ≤ 64 ∧ (len : Int) ≤ K ∧ 0 ≤ N ∧ N ≤ 1000000000 ∧ 0 ≤ off ∧ off ≤ N) := by
  unfold headH
  simp only [Bool.and_eq_true, decide_eq_true_eq]
def oneOk (l : List Ct) (k : Nat) (x : Ct) : Bool := decide (x.ky.size ≤ 40) && (decide (0 < x.n) && preB l k x)
/-- The program's check, as far as place k. -/
def okP (h : Bool) (N : Int) (l : List Ct) : Nat → Bool
  | 0 => h
  | k + 1 => match l[k]? with
    | none => okP h N l k
    | some x => okP h N l k && (oneOk l k x && decide (x.n ≤ N))
theorem okP_step {h : Bool} {N : Int} {l : List Ct} {k : Nat} {x : Ct} (hx : l[k]? = some x) : okP h N l (k + 1) = (okP h N l k && (oneOk l k x && decide (x.n ≤ N))) := by
  rw [okP, hx]
/-- The reference's, and what is left. -/
def okR (h : Bool) (N : Int) (l : List Ct) : Nat → Bool × Int
  | 0 => (h, N)
  | k + 1 => match l[k]? with
    | none => okR h N l k
    | some x => if ((okR h N l k).1 && (oneOk l k x && decide (x.n ≤ (okR h N l k).2))) = true then (true, (okR h N l k).2 - x.n) else (false, (okR h N l k).2)
theorem okR_step {h : Bool} {N : Int} {l : List Ct} {k : Nat} {x : Ct} (hx : l[k]? = some x) : okR h N l (k + 1) = if ((okR h N l k).1 && (oneOk l k x && decide (x.n ≤ (okR h N l k).2))) = true then (true, (okR h N l k).2 - x.n) else (false, (okR h N l k).2) := by
  rw [okR, hx]
def allOk (l : List Ct) (k : Nat) : Prop := ∀ (i : Nat) (x : Ct), i < k → l[i]? = some x → oneOk l i x = true
theorem okP_iff {h : Bool} {N : Int} {l : List Ct} : ∀ k, k ≤ l.length → (okP h N l k = true ↔ h = true ∧ allOk l k ∧ ∀ (i : Nat) (x : Ct), i < k → l[i]? = some x → x.n ≤ N)
  | 0, _ => by
    rw [okP]
    exact ⟨fun e => ⟨e, fun i x hi => absurd hi (by omega), fun i x hi => absurd hi (by omega)⟩, fun e => e.1⟩
  | k + 1, hk => by
    obtain ⟨x, hx⟩ : ∃ x, l[k]? = some x := ⟨_, List.getElem?_eq_getElem (by omega)⟩
    have ih := okP_iff (h := h) (N := N) (l := l) k (by omega)
    rw [okP_step hx, Bool.and_eq_true, ih, Bool.and_eq_true, decide_eq_true_eq]
    constructor
    · rintro ⟨⟨h1, h2, h3⟩, h4, h5⟩
      refine ⟨h1, fun i y hi hy => ?_, fun i y hi hy => ?_⟩
      · rcases Nat.lt_or_ge i k with hlt | hge
        · exact h2 i y hlt hy
        · obtain rfl : i = k := by omega
          rw [hx] at hy
          obtain rfl := Option.some.inj hy
          exact h4
      · rcases Nat.lt_or_ge i k with hlt | hge
        · exact h3 i y hlt hy
        · obtain rfl : i = k := by omega
          rw [hx] at hy
          obtain rfl := Option.some.inj hy
          exact h5
    · rintro ⟨h1, h2, h3⟩
      exact ⟨⟨h1, fun i y hi hy => h2 i y (by omega) hy, fun i y hi hy => h3 i y (by omega) hy⟩, h2 k x (by omega) hx, h3 k x (by omega) hx⟩
theorem oneOk_pos {l : List Ct} {i : Nat} {x : Ct} (h : oneOk l i x = true) : x.ky.size ≤ 40 ∧ 0 < x.n ∧ preB l i x = true := by
  unfold oneOk at h
  simp only [Bool.and_eq_true, decide_eq_true_eq] at h
  exact h
theorem sumN_pos {l : List Ct} : ∀ k, k ≤ l.length → allOk l k → 0 ≤ sumN (l.take k) ∧ ∀ (i : Nat) (x : Ct), i < k → l[i]? = some x → x.n ≤ sumN (l.take k)
  | 0, _, _ => ⟨by simp [sumN], fun i x hi => absurd hi (by omega)⟩
  | k + 1, hk, ha => by
    obtain ⟨x, hx⟩ : ∃ x, l[k]? = some x := ⟨_, List.getElem?_eq_getElem (by omega)⟩
    have ih := sumN_pos (l := l) k (by omega) (fun i y hi => ha i y (by omega))
    have hp := oneOk_pos (ha k x (by omega) hx)
    rw [sumN_take hx]
    refine ⟨by omega, fun i y hi hy => ?_⟩
    rcases Nat.lt_or_ge i k with hlt | hge
    · have := ih.2 i y hlt hy
      omega
    · obtain rfl : i = k := by omega
      rw [hx] at hy
      obtain rfl := Option.some.inj hy
      omega
theorem okR_iff {h : Bool} {N : Int} {l : List Ct} (hN : h = true → 0 ≤ N) : ∀ k, k ≤ l.length → ((okR h N l k).1 = true ↔ h = true ∧ allOk l k ∧ sumN (l.take k) ≤ N) ∧ ((okR h N l k).1 = true → (okR h N l k).2 = N - sumN (l.take k))
  | 0, _ => by
    rw [okR]
    refine ⟨⟨fun e => ⟨e, fun i x hi => absurd hi (by omega), ?_⟩, fun e => e.1⟩, fun _ => by simp [sumN]⟩
    have := hN e
    simp [sumN]
    exact this
  | k + 1, hk => by
    obtain ⟨x, hx⟩ : ∃ x, l[k]? = some x := ⟨_, List.getElem?_eq_getElem (by omega)⟩
    obtain ⟨ih1, ih2⟩ := okR_iff (h := h) (N := N) (l := l) hN k (by omega)
    rw [okR_step hx, sumN_take hx]
    by_cases hc : ((okR h N l k).1 && (oneOk l k x && decide (x.n ≤ (okR h N l k).2))) = true
    · rw [if_pos hc]
      simp only [Bool.and_eq_true, decide_eq_true_eq] at hc
      obtain ⟨h1, h2, h3⟩ := hc
      have h4 := ih1.1 h1
      have h5 := ih2 h1
      refine ⟨⟨fun _ => ⟨h4.1, fun i y hi hy => ?_, by omega⟩, fun _ => rfl⟩, fun _ => by rw [h5]; omega⟩
      rcases Nat.lt_or_ge i k with hlt | hge
      · exact h4.2.1 i y hlt hy
      · obtain rfl : i = k := by omega
        rw [hx] at hy
        obtain rfl := Option.some.inj hy
        exact h2
    · rw [if_neg hc]
      refine ⟨⟨fun e => by simp at e, fun ⟨h1, h2, h3⟩ => ?_⟩, fun e => by simp at e⟩
      exfalso
      refine hc ?_
      have hp := oneOk_pos (h2 k x (by omega) hx)
      have h6 : (okR h N l k).1 = true := ih1.2 ⟨h1, fun i y hi => h2 i y (by omega), by omega⟩
      have h7 := ih2 h6
      rw [h6, h2 k x (by omega) hx, decide_eq_true (by omega)]
      rfl
structure Hv where
  k : Int
  l : List Ct
  n : Int
  off : Int
def wellH (s : Hv) : Prop := headH s.k s.l.length s.n s.off = true ∧ allOk s.l s.l.length ∧ (s.k + 1) * s.off + sumN s.l ≤ s.n
open Classical in
noncomputable def heavyF (s : Hv) : Int := if wellH s then 0 else 4
theorem mul_nn {K off : Int} (h1 : 1 ≤ K) (h2 : 0 ≤ off) : 0 ≤ (K + 1) * off := Int.mul_nonneg (by omega) h2
theorem heavyP_eq {s : Hv} : wellH s ↔ (okP (headH s.k s.l.length s.n s.off) s.n s.l s.l.length = true ∧ (s.k + 1) * s.off + sumN s.l ≤ s.n) := by
  have h1 := okP_iff (h := headH s.k s.l.length s.n s.off) (N := s.n) (l := s.l) s.l.length (Nat.le_refl _)
  rw [h1]
  constructor
  · rintro ⟨h2, h3, h4⟩
    refine ⟨⟨h2, h3, fun i x hi hx => ?_⟩, h4⟩
    have h5 := (sumN_pos s.l.length (Nat.le_refl _) h3).2 i x hi hx
    rw [List.take_length] at h5
    have h6 := headH_ok.1 h2
    have := mul_nn h6.1 h6.2.2.2.2.2.1
    omega
  · rintro ⟨⟨h2, h3, _⟩, h4⟩
    exact ⟨h2, h3, h4⟩
theorem heavyR_eq {s : Hv} : wellH s ↔ ((okR (headH s.k s.l.length s.n s.off) s.n s.l s.l.length).1 = true ∧ s.off * (s.k + 1) ≤ (okR (headH s.k s.l.length s.n s.off) s.n s.l s.l.length).2) := by
  obtain ⟨h1, h2⟩ := okR_iff (h := headH s.k s.l.length s.n s.off) (N := s.n) (l := s.l) (fun e => (headH_ok.1 e).2.2.2.1) s.l.length (Nat.le_refl _)
  rw [List.take_length] at h1 h2
  have hc : s.off * (s.k + 1) = (s.k + 1) * s.off := Int.mul_comm _ _
  constructor
  · rintro ⟨h3, h4, h5⟩
    have h6 := headH_ok.1 h3
    have := mul_nn h6.1 h6.2.2.2.2.2.1
    have h7 := h1.2 ⟨h3, h4, by omega⟩
    refine ⟨h7, ?_⟩
    rw [h2 h7, hc]
    omega
  · rintro ⟨h3, h4⟩
    have h5 := h1.1 h3
    rw [h2 h3, hc] at h4
    exact ⟨h5.1, h5.2.1, by omega⟩
/-- The key of a name of at most 40 bytes. -/
def kH (s : ByteArray) : Int := keyL 40 s.data.toList
theorem kH_less {s t : ByteArray} (hs : s.size ≤ 40) (ht : t.size ≤ 40) : Op.bytesLess s.toList t.toList = decide (kH s < kH t) := by
  rw [ByteArray.toList_eq, ByteArray.toList_eq]
  exact key_less 40 _ _ (by simpa using hs) (by simpa using ht)
theorem kH_inj {s t : ByteArray} (hs : s.size ≤ 40) (ht : t.size ≤ 40) (h : kH s = kH t) : s = t := by
  have := key_same 40 s.data.toList t.data.toList (by simpa using hs) (by simpa using ht) h
  cases s; cases t
  simp only [ByteArray.mk.injEq]
  exact Array.ext' this
theorem kH_same {s t : ByteArray} (hs : s.size ≤ 40) (ht : t.size ≤ 40) : (s.toList == t.toList) = decide (kH s = kH t) := by
  by_cases h : kH s = kH t
  · rw [decide_eq_true h, kH_inj hs ht h]; simp
  · rw [decide_eq_false h, beq_eq_false_iff_ne]
    intro he
    rw [ByteArray.toList_eq, ByteArray.toList_eq] at he
    exact h (by unfold kH; rw [he])
/-- Keys that rise, of at most 40 bytes each; all counts above nought. -/
def Ris (l : List Ct) : Prop := (∀ x ∈ l, x.ky.size ≤ 40 ∧ 0 < x.n) ∧ l.Pairwise fun a b => kH a.ky < kH b.ky
theorem ris_of {l : List Ct} (h : allOk l l.length) : Ris l := by
  have hs : ∀ (i : Nat) (x : Ct), l[i]? = some x → x.ky.size ≤ 40 ∧ 0 < x.n ∧ preB l i x = true := fun i x hx => oneOk_pos (h i x (List.getElem?_eq_some_iff.1 hx).1 hx)
  refine ⟨fun x hx => ?_, ?_⟩
  · obtain ⟨i, hi⟩ := List.mem_iff_getElem?.1 hx
    have := hs i x hi
    exact ⟨this.1, this.2.1⟩
  · have key : ∀ d i (x y : Ct), l[i]? = some x → l[i + d + 1]? = some y → kH x.ky < kH y.ky := by
      intro d
      induction d with
      | zero =>
        intro i x y hx hy
        have h1 := hs _ y hy
        rw [Nat.add_zero] at h1
        have h2 := h1.2.2
        rw [preB_succ hx, kH_less (hs i x hx).1 h1.1] at h2
        simpa using h2
      | succ d ih =>
        intro i x y hx hy
        have hlt := (List.getElem?_eq_some_iff.1 hy).1
        obtain ⟨z, hz⟩ : ∃ z, l[i + d + 1]? = some z := ⟨_, List.getElem?_eq_getElem (by omega)⟩
        have h1 := ih i x z hx hz
        have h2 := hs _ y hy
        rw [show i + (d + 1) + 1 = (i + d + 1) + 1 from by omega, preB_succ hz, kH_less (hs _ z hz).1 h2.1] at h2
        have h3 : kH z.ky < kH y.ky := by simpa using h2.2.2
        omega
    rw [List.pairwise_iff_getElem]
    intro i j hi hj hij
    exact key (j - i - 1) i _ _ (List.getElem?_eq_getElem hi) (by rw [show i + (j - i - 1) + 1 = j from by omega]; exact List.getElem?_eq_getElem hj)
end Go.Gh
/-
  Tallies: where a key stands, and what counting it does.
-/
namespace Go.Gh
set_option linter.unusedVariables false
/-- The place of a key among keys that rise. -/
def AtH (l : List Ct) (key : ByteArray) (i : Nat) : Prop := i ≤ l.length ∧ (∀ (j : Nat) (x : Ct), j < i → l[j]? = some x → kH x.ky < kH key) ∧ (∀ (j : Nat) (x : Ct), i ≤ j → l[j]? = some x → kH key ≤ kH x.ky)
def hitB (l : List Ct) (key : ByteArray) (i : Nat) : Bool := match l[i]? with
  | none => false
  | some x => decide (kH x.ky = kH key)
theorem hitB_some {l : List Ct} {key : ByteArray} {i : Nat} {x : Ct} (h : l[i]? = some x) : hitB l key i = decide (kH x.ky = kH key) := by
  unfold hitB
  simp only [h]
theorem hitB_none {l : List Ct} {key : ByteArray} {i : Nat} (h : l.length ≤ i) : hitB l key i = false := by
  unfold hitB
  simp only [List.getElem?_eq_none h]
theorem AtH.uniq {l : List Ct} {key : ByteArray} {i j : Nat} (h1 : AtH l key i) (h2 : AtH l key j) : i = j := by
  rcases Nat.lt_trichotomy i j with h | h | h
  · exfalso
    obtain ⟨x, hx⟩ : ∃ x, l[i]? = some x := ⟨_, List.getElem?_eq_getElem (by have := h2.1; omega)⟩
    have := h2.2.1 i x h hx
    have := h1.2.2 i x (Nat.le_refl _) hx
    omega
  · exact h
  · exfalso
    obtain ⟨x, hx⟩ : ∃ x, l[j]? = some x := ⟨_, List.getElem?_eq_getElem (by have := h1.1; omega)⟩
    have := h1.2.1 j x h hx
    have := h2.2.2 j x (Nat.le_refl _) hx
    omega
theorem ris_lt {l : List Ct} (h : Ris l) {i j : Nat} {x y : Ct} (hij : i < j) (hx : l[i]? = some x) (hy : l[j]? = some y) : kH x.ky < kH y.ky := by
  obtain ⟨h1, h2⟩ := List.getElem?_eq_some_iff.1 hx
  obtain ⟨h3, h4⟩ := List.getElem?_eq_some_iff.1 hy
  have := List.pairwise_iff_getElem.1 h.2 i j h1 h3 hij
  rw [h2, h4] at this
  exact this
/-- What the reference's counting leaves of the rest. -/
def cnted (key : ByteArray) (n : Int) : List Ct → Bool → List Ct
  | [], put => if put = true then [] else [⟨key, n⟩]
  | c :: r, put => if kH c.ky = kH key then ⟨c.ky, c.n + n⟩ :: cnted key n r true
      else if put = false ∧ kH key < kH c.ky then ⟨key, n⟩ :: c :: cnted key n r true
      else c :: cnted key n r put
section
variable {key : ByteArray} {n : Int} {c : Ct} {r : List Ct} {put : Bool}
theorem cnted_hit (h : kH c.ky = kH key) : cnted key n (c :: r) put = ⟨c.ky, c.n + n⟩ :: cnted key n r true := by rw [cnted, if_pos h]
theorem cnted_new (h1 : kH key < kH c.ky) : cnted key n (c :: r) false = ⟨key, n⟩ :: c :: cnted key n r true := by rw [cnted, if_neg (by omega), if_pos ⟨rfl, h1⟩]
theorem cnted_on (h : ¬ kH c.ky = kH key) (h1 : ¬ (put = false ∧ kH key < kH c.ky)) : cnted key n (c :: r) put = c :: cnted key n r put := by rw [cnted, if_neg h, if_neg h1]
theorem cnted_rest : ∀ {r : List Ct}, (∀ x ∈ r, ¬ kH x.ky = kH key) → cnted key n r true = r
  | [], _ => by rw [cnted, if_pos rfl]
  | x :: r, h => by rw [cnted_on (h x (by simp)) (by simp), cnted_rest (fun y hy => h y (by simp [hy]))]
theorem cnted_app : ∀ {a b : List Ct}, (∀ x ∈ a, kH x.ky < kH key) → cnted key n (a ++ b) false = a ++ cnted key n b false
  | [], b, _ => rfl
  | x :: a, b, h => by
    have := h x (by simp)
    rw [List.cons_append, cnted_on (by omega) (by omega), cnted_app (fun y hy => h y (by simp [hy])), List.cons_append]
end
theorem take_lt {l : List Ct} {key : ByteArray} {i : Nat} (h : AtH l key i) : ∀ x ∈ l.take i, kH x.ky < kH key := by
  intro x hx
  obtain ⟨j, hj⟩ := List.mem_iff_getElem?.1 hx
  rw [List.getElem?_take] at hj
  split at hj
  · rename_i hlt; exact h.2.1 j x hlt hj
  · simp at hj
theorem cnted_at {l : List Ct} {key : ByteArray} {n : Int} {i : Nat} {x : Ct} (hr : Ris l) (h : AtH l key i) (hx : l[i]? = some x) (he : kH x.ky = kH key) : cnted key n l false = l.set i ⟨x.ky, x.n + n⟩ := by
  obtain ⟨h1, h2⟩ := List.getElem?_eq_some_iff.1 hx
  conv => lhs; rw [← List.take_append_drop i l, cnted_app (take_lt h), List.drop_eq_getElem_cons h1, h2, cnted_hit he]
  rw [cnted_rest, List.set_eq_take_append_cons_drop, if_pos h1]
  intro y hy
  obtain ⟨j, hj⟩ := List.mem_iff_getElem?.1 hy
  rw [List.getElem?_drop] at hj
  have := ris_lt hr (show i < i + 1 + j by omega) hx hj
  omega
theorem cnted_ins {l : List Ct} {key : ByteArray} {n : Int} {i : Nat} (hr : Ris l) (h : AtH l key i) (hh : hitB l key i = false) : cnted key n l false = l.take i ++ ⟨key, n⟩ :: l.drop i := by
  conv => lhs; rw [← List.take_append_drop i l, cnted_app (take_lt h)]
  congr 1
  rcases Nat.lt_or_ge i l.length with hlt | hge
  · have hx : l[i]? = some l[i] := List.getElem?_eq_getElem hlt
    rw [hitB_some hx] at hh
    have hne : ¬ kH l[i].ky = kH key := of_decide_eq_false hh
    have hle := h.2.2 i _ (Nat.le_refl _) hx
    rw [List.drop_eq_getElem_cons hlt, cnted_new (by omega), cnted_rest]
    intro y hy
    obtain ⟨j, hj⟩ := List.mem_iff_getElem?.1 hy
    rw [List.getElem?_drop] at hj
    have := ris_lt hr (show i < i + 1 + j by omega) hx hj
    omega
  · rw [List.drop_of_length_le hge, cnted, if_neg (by simp)]
/-- How often a key is counted. -/
def cntIn (key : ByteArray) : List Ct → Int
  | [] => 0
  | c :: r => if kH c.ky = kH key then c.n else cntIn key r
theorem cntIn_hit {key : ByteArray} {c : Ct} {r : List Ct} (h : kH c.ky = kH key) : cntIn key (c :: r) = c.n := by rw [cntIn, if_pos h]
theorem cntIn_on {key : ByteArray} {c : Ct} {r : List Ct} (h : ¬ kH c.ky = kH key) : cntIn key (c :: r) = cntIn key r := by rw [cntIn, if_neg h]
theorem cntIn_app {key : ByteArray} : ∀ {a b : List Ct}, (∀ x ∈ a, ¬ kH x.ky = kH key) → cntIn key (a ++ b) = cntIn key b
  | [], b, _ => rfl
  | x :: a, b, h => by rw [List.cons_append, cntIn_on (h x (by simp)), cntIn_app (fun y hy => h y (by simp [hy]))]
theorem cntIn_at {l : List Ct} {key : ByteArray} {i : Nat} {x : Ct} (h : AtH l key i) (hx : l[i]? = some x) (he : kH x.ky = kH key) : cntIn key l = x.n := by
  obtain ⟨h1, h2⟩ := List.getElem?_eq_some_iff.1 hx
  rw [← List.take_append_drop i l, cntIn_app (fun y hy => by have := take_lt h y hy; omega), List.drop_eq_getElem_cons h1, h2, cntIn_hit he]
theorem cntIn_none {l : List Ct} {key : ByteArray} {i : Nat} (hr : Ris l) (h : AtH l key i) (hh : hitB l key i = false) : cntIn key l = 0 := by
  have : ∀ x ∈ l, ¬ kH x.ky = kH key := by
    intro x hx
    obtain ⟨j, hj⟩ := List.mem_iff_getElem?.1 hx
    rcases Nat.lt_trichotomy j i with h1 | h1 | h1
    · have := h.2.1 j x h1 hj
      omega
    · subst h1
      rw [hitB_some hj] at hh
      exact of_decide_eq_false hh
    · obtain ⟨y, hy⟩ : ∃ y, l[i]? = some y := ⟨_, List.getElem?_eq_getElem (by have := (List.getElem?_eq_some_iff.1 hj).1; omega)⟩
      have h2 := ris_lt hr h1 hy hj
      have h3 := h.2.2 i y (Nat.le_refl _) hy
      omega
  have h2 := cntIn_app (key := key) (a := l) (b := []) this
  rw [List.append_nil] at h2
  rw [h2]
  rfl
/-- Each so much less. -/
def lessF (n : Int) : List Ct → List Ct
  | [] => []
  | c :: r => if n < c.n then ⟨c.ky, c.n - n⟩ :: lessF n r else lessF n r
theorem lessF_app (n : Int) : ∀ (a b : List Ct), lessF n (a ++ b) = lessF n a ++ lessF n b
  | [], b => rfl
  | x :: a, b => by
    rw [List.cons_append, lessF, lessF, lessF_app n a b]
    split
    · rw [List.cons_append]
    · rfl
theorem lessF_take {n : Int} {l : List Ct} {k : Nat} {x : Ct} (h : l[k]? = some x) : lessF n (l.take (k + 1)) = lessF n (l.take k) ++ if n < x.n then [⟨x.ky, x.n - n⟩] else [] := by
  obtain ⟨h1, h2⟩ := List.getElem?_eq_some_iff.1 h
  rw [List.take_succ_eq_append_getElem h1, h2, lessF_app]
  congr 1
theorem lessF_len (n : Int) : ∀ (l : List Ct), (lessF n l).length ≤ l.length
  | [] => Nat.le_refl _
  | c :: r => by
    have := lessF_len n r
    rw [lessF]
    split <;> simp only [List.length_cons] <;> omega
/-- A key more. -/
def tallyF (s : Hv) (key : ByteArray) : Hv := if 0 < cntIn key s.l ∨ (s.l.length : Int) < s.k then ⟨s.k, cnted key 1 s.l false, s.n + 1, s.off⟩ else ⟨s.k, lessF 1 s.l, s.n + 1, s.off + 1⟩
end Go.Gh
/-
  Rows of the call's own in which an element is put in, or written over.
-/
namespace Go.Gh
open Go.RowKit
set_option linter.unusedVariables false
section
variable {α : Type} {k : Nat} {P : List (α × List Value)}
theorem pc_ins (P : List (α × List Value)) (a : α) (c : List Value) (i : Nat) : pc (P.take i ++ (a, c) :: P.drop i) = pc (P.take i) ++ (c ++ pc (P.drop i)) := by
  rw [pc_append, pc_cons]
theorem PK.ins (h : PK k P) {a : α} {c : List Value} (hc : c.length = k) (i : Nat) : PK k (P.take i ++ (a, c) :: P.drop i) := by
  intro p hp
  rcases List.mem_append.1 hp with h' | h'
  · exact h p (List.mem_of_mem_take h')
  · rcases List.mem_cons.1 h' with h'' | h''
    · rw [h'']; exact hc
    · exact h p (List.mem_of_mem_drop h'')
theorem PK.set (h : PK k P) {a : α} {c : List Value} (hc : c.length = k) (i : Nat) : PK k (P.set i (a, c)) := by
  intro p hp
  rcases List.mem_or_eq_of_mem_set hp with h' | h'
  · exact h p h'
  · rw [h']; exact hc
theorem map_ins (P : List (α × List Value)) (a : α) (c : List Value) (i : Nat) : (P.take i ++ (a, c) :: P.drop i).map (·.1) = (P.map (·.1)).take i ++ a :: (P.map (·.1)).drop i := by
  rw [List.map_append, List.map_cons, List.map_take, List.map_drop]
theorem map_set (P : List (α × List Value)) (a : α) (c : List Value) (i : Nat) : (P.set i (a, c)).map (·.1) = (P.map (·.1)).set i a := by
  rw [List.map_set]
theorem all_ins {Q : α × List Value → Prop} (h : ∀ p ∈ P, Q p) {a : α} {c : List Value} (hc : Q (a, c)) (i : Nat) : ∀ p ∈ P.take i ++ (a, c) :: P.drop i, Q p := by
  intro p hp
  rcases List.mem_append.1 hp with h' | h'
  · exact h p (List.mem_of_mem_take h')
  · rcases List.mem_cons.1 h' with h'' | h''
    · rw [h'']; exact hc
    · exact h p (List.mem_of_mem_drop h'')
theorem all_set {Q : α × List Value → Prop} (h : ∀ p ∈ P, Q p) {a : α} {c : List Value} (hc : Q (a, c)) (i : Nat) : ∀ p ∈ P.set i (a, c), Q p := by
  intro p hp
  rcases List.mem_or_eq_of_mem_set hp with h' | h'
  · exact h p h'
  · rw [h']; exact hc
/-- An element is put in at a place of a row that is the call's own. -/
theorem own_insP {w' : World} {B : Nat} {e : TypeId} {p j g cap : Nat} {a : α} {c : List Value} (h : w'.ownsRow B e k (.slice (some ⟨g, 0, none⟩) (j + (1 + (p - j))) cap) (j + (1 + (p - j))) ((pc P).take (j * k) ++ (c ++ (pc P).drop (j * k)))) (hk : PK k P) (hp : P.length = p) (hj : j ≤ p) :
    w'.ownsRow B e k (.slice (some ⟨g, 0, none⟩) (p + 1) cap) (p + 1) (pc (P.take j ++ (a, c) :: P.drop j)) := by
  rw [pc_ins, ← pc_take hk j, ← pc_drop hk j (by omega)]
  rw [show j + (1 + (p - j)) = p + 1 by omega] at h
  exact h
theorem own_insP_end {w' : World} {B : Nat} {e : TypeId} {j g cap : Nat} {a : α} {c : List Value} (h : w'.ownsRow B e k (.slice (some ⟨g, 0, none⟩) (j + 1) cap) (j + 1) ((pc P).take (j * k) ++ (c ++ (pc P).drop (j * k)))) (hk : PK k P) (hp : P.length = j) :
    w'.ownsRow B e k (.slice (some ⟨g, 0, none⟩) (j + 1) cap) (j + 1) (pc (P.take j ++ (a, c) :: P.drop j)) := by
  rw [pc_ins, ← pc_take hk j, ← pc_drop hk j (by omega)]
  exact h
/-- The cells of an element of a row that is the call's own. -/
theorem own_el {w : World} {B : Nat} {e : TypeId} {g n cap i : Nat} {p : α × List Value} (h : w.ownsRow B e k (.slice (some ⟨g, 0, none⟩) n cap) n (pc P)) (hk : PK k P) (hp : P[i]? = some p) (hi : i < n) : (∀ j u, p.2[j]? = some u → w.cell? ⟨g, i * k + j, none⟩ = some u) ∧ ∀ j, w.frozen? ⟨g, i * k + j, none⟩ = false := by
  obtain ⟨g', cap', e1, _, _, _, _, hc⟩ := own_some h (by omega)
  simp at e1
  obtain ⟨rfl, rfl⟩ := e1
  refine ⟨fun j u hu => ?_, fun j => h.frozenAt _⟩
  have hj : j < k := by
    have h1 := (List.getElem?_eq_some_iff.1 hu).1
    have h2 : p.2.length = k := hk p (List.mem_of_getElem? hp)
    omega
  exact hc _ _ (by rw [pc_get hk hp hj]; exact hu)
/-- An element of a row that is the call's own is written over. -/
theorem own_over {w : World} {B : Nat} {e : TypeId} {g n cap i : Nat} {a : α} {c : List Value} (h : w.ownsRow B e k (.slice (some ⟨g, 0, none⟩) n cap) n (pc P)) (hk : PK k P) (hi : i < P.length) (hc : c.length = k) : (setCells w g (i * k) c).ownsRow B e k (.slice (some ⟨g, 0, none⟩) n cap) n (pc (P.set i (a, c))) := by
  have := own_stores c w (i * k) (pc P) h
  rwa [pc_set hk hi hc] at this
end
end Go.Gh
/-
  Blocks of the call's own that hold a struct.
-/
namespace Go.Gh
open Go.RowKit
set_option linter.unusedVariables false
theorem box_over {w : World} {b : Nat} {T : TypeId} {cs us : List Value} (h : w.heap[b]? = some (.cells cs.toArray T (0, 0))) (hl : cs.length = us.length) : (setCells w b 0 us).heap[b]? = some (.cells us.toArray T (0, 0)) := by
  have := row_stores us w 0 cs h
  rwa [setFrom_all _ _ hl] at this
section
variable {w : World} {B : Nat} {T : TypeId} {a b c d e f : Value}
theorem bx2 (h : w.heap[B]? = some (.cells #[a, b] T (0, 0))) : (w.cell? ⟨B, 0, none⟩ = some a ∧ w.cell? ⟨B, 1, none⟩ = some b) ∧ (w.frozen? ⟨B, 0, none⟩ = false ∧ w.frozen? ⟨B, 1, none⟩ = false) :=
  ⟨⟨(row_cell 0 _ h rfl).1, (row_cell 1 _ h rfl).1⟩, ⟨(row_cell 0 a h rfl).2, (row_cell 1 b h rfl).2⟩⟩
theorem bx3 (h : w.heap[B]? = some (.cells #[a, b, c] T (0, 0))) : (w.cell? ⟨B, 0, none⟩ = some a ∧ w.cell? ⟨B, 1, none⟩ = some b ∧ w.cell? ⟨B, 2, none⟩ = some c) ∧ (w.frozen? ⟨B, 0, none⟩ = false ∧ w.frozen? ⟨B, 1, none⟩ = false ∧ w.frozen? ⟨B, 2, none⟩ = false) :=
  ⟨⟨(row_cell 0 _ h rfl).1, (row_cell 1 _ h rfl).1, (row_cell 2 _ h rfl).1⟩, ⟨(row_cell 0 a h rfl).2, (row_cell 1 b h rfl).2, (row_cell 2 c h rfl).2⟩⟩
theorem bx4 (h : w.heap[B]? = some (.cells #[a, b, c, d] T (0, 0))) : (w.cell? ⟨B, 0, none⟩ = some a ∧ w.cell? ⟨B, 1, none⟩ = some b ∧ w.cell? ⟨B, 2, none⟩ = some c ∧ w.cell? ⟨B, 3, none⟩ = some d) ∧
    (w.frozen? ⟨B, 0, none⟩ = false ∧ w.frozen? ⟨B, 1, none⟩ = false ∧ w.frozen? ⟨B, 2, none⟩ = false ∧ w.frozen? ⟨B, 3, none⟩ = false) :=
  ⟨⟨(row_cell 0 _ h rfl).1, (row_cell 1 _ h rfl).1, (row_cell 2 _ h rfl).1, (row_cell 3 _ h rfl).1⟩, ⟨(row_cell 0 a h rfl).2, (row_cell 1 b h rfl).2, (row_cell 2 c h rfl).2, (row_cell 3 d h rfl).2⟩⟩
theorem bx6 (h : w.heap[B]? = some (.cells #[a, b, c, d, e, f] T (0, 0))) : (w.cell? ⟨B, 0, none⟩ = some a ∧ w.cell? ⟨B, 1, none⟩ = some b ∧ w.cell? ⟨B, 2, none⟩ = some c ∧ w.cell? ⟨B, 3, none⟩ = some d ∧ w.cell? ⟨B, 4, none⟩ = some e ∧ w.cell? ⟨B, 5, none⟩ = some f) ∧
    (w.frozen? ⟨B, 0, none⟩ = false ∧ w.frozen? ⟨B, 1, none⟩ = false ∧ w.frozen? ⟨B, 2, none⟩ = false ∧ w.frozen? ⟨B, 3, none⟩ = false ∧ w.frozen? ⟨B, 4, none⟩ = false ∧ w.frozen? ⟨B, 5, none⟩ = false) :=
  ⟨⟨(row_cell 0 _ h rfl).1, (row_cell 1 _ h rfl).1, (row_cell 2 _ h rfl).1, (row_cell 3 _ h rfl).1, (row_cell 4 _ h rfl).1, (row_cell 5 _ h rfl).1⟩, ⟨(row_cell 0 a h rfl).2, (row_cell 1 b h rfl).2, (row_cell 2 c h rfl).2, (row_cell 3 d h rfl).2, (row_cell 4 e h rfl).2, (row_cell 5 f h rfl).2⟩⟩
end
end Go.Gh
