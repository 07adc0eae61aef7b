/-
  Lists of numbers: the walks of slices.Clone, slices.BinarySearch at []int64, Inserted, sameNumbers.
-/
import Derived.Test.YtcljeedmiobepaaRk4
import Derived.Test.YtcljeedmiobepaaRkLaw2
import Derived.Lib.SmallJoins
namespace Go.Proofs.Ytcljeedmiobepaa.Rk
open Go.RowKit Go.Gh
set_option linter.unusedVariables false
theorem clone64_any (v : Value) (l : List Int) (w : World) (hv : Ns w v l) (hn : l.length ≤ 1000000000000) :
    Calls Try.prog 114 #[v] w fun e w' => ∃ v', e = .returned v' ∧ w'.ownsRow w.heap.size 2 1 v' l.length (l.map (Value.int .i64)) ∧ Below w.heap.size w w' := by
  unfold Ns at hv
  obtain ⟨n, hm⟩ : ∃ n, l.length = n := ⟨_, rfl⟩
  rw [hm] at hv hn ⊢
  have HM := Lib.hid hm
  obtain ⟨ao, c, rfl, hnc, hc, hlen⟩ := hv.shape
  have HN := Lib.hid hn
  clear hn hm
  cases ao with
  | none =>
    have hn0 : n = 0 := by
      obtain ⟨ao', cap, h1, h2, _, h4, _, h6⟩ := hv
      simp at h1
      have := h4 h1.1.symm
      omega
    subst hn0
    have hl : l = [] := List.length_eq_zero_iff.1 HM.out
    subst hl
    have he := Lib.run_eql_slice_nil (P := Try.prog) w 72 2 none 0 c 0 0 Try.underlying72
    go_enter Try.func114, Try.ntmps114
    go_wp2_with fail
    go_ret
    exact ⟨_, rfl, World.ownsRow_nil _ _ _ _, Below.refl _ _⟩
  | some a =>
    have he := Lib.run_eql_slice_nil (P := Try.prog) w 72 2 (some a) n c 0 0 Try.underlying72
    have ho := own_build (e := 2) (size := 1) (n := 0) w [] (Nat.le_refl _) rfl (by decide)
    have hs2 := hv.alloc (Obj.cells ([] : List Value).toArray 2)
    clear hlen
    go_enter Try.func114, Try.ntmps114
    go_wp2_with (at_builtin; refine appendS Sort64.elI64 rfl _ _ rfl ho ((Below.refl _ _).alloc (Nat.le_refl _) _) ?c1 rfl rfl hs2 (Sort64.ints_one _) ?c2 ?c3 ?_)
    case c1 => simp
    case c2 => have := HN.out; omega
    case c3 => have := HN.out; omega
    intro v' w1 hown' hbel' _
    go_wp2
    go_ret
    exact ⟨v', rfl, by simpa using hown', hbel'⟩
set_option maxRecDepth 100000 in
theorem samenum_any (v u : Value) (l : List Int) (w : World) (hs : Ns w v l) (ht : Ns w u l) :
    Calls Try.prog 153 #[v, u] w fun e w' => e = .returned (.bool true) ∧ ∃ q, w' = w.drewN q := by
  obtain ⟨ao, c, rfl, hnc, hc, _⟩ := hs.shape
  obtain ⟨bo, d, rfl, hod, hd, _⟩ := ht.shape
  obtain ⟨n, hm⟩ : ∃ n, l.length = n := ⟨_, rfl⟩
  have HS := Lib.hid hs
  have HT := Lib.hid ht
  have HM := Lib.hid hm
  rw [hm] at hnc hod HS HT ⊢
  clear hs ht hm
  go_enter Try.func153, Try.ntmps153
  go_wp2_with fail
  go_loopw [13] (fun i wr => ∃ k : Nat, k ≤ n ∧ i = .int .i64 k ∧ ∃ q, wr = w.drewN q) (fun i _ => n - (intOf i).toNat)
  case atStart => exact ⟨0, by omega, rfl, 0, rfl⟩
  case round =>
    obtain ⟨k, hk, rfl, q, hq⟩ := hrel
    have hbr : Below w.heap.size w wr := by rw [hq]; exact below_drewN (Below.refl _ _) _
    have HQ := Lib.hid hq
    clear hq
    by_cases hlt : k < n
    · obtain ⟨z, hz⟩ : ∃ z, l[k]? = some z := ⟨_, List.getElem?_eq_getElem (by rw [HM.out]; exact hlt)⟩
      obtain ⟨b, off, rfl, hc1⟩ := (HS.out.below hbr).at hz
      obtain ⟨b', off', rfl, hc2⟩ := (HT.out.below hbr).at hz
      have hzz : (z != z) = false := by simp
      clear hz
      go_wp2_with fail
      go_quiet (fail)
      go_wp2
      go_roundw
      case rel => exact ⟨k + 1, by omega, by go_num, q + nq, by rw [HQ.out]; exact drew_add _ _ _⟩
      case measure => simp [intOf]; omega
    · have hkn : k = n := by omega
      subst hkn
      go_wp2_with fail
      go_ret
      exact ⟨rfl, q, HQ.out⟩
/-- Where the number stands. -/
theorem lt_cnt {x : Int} {l : List Int} {n : Nat} (hn : n ≤ l.length) (h1 : ∀ (j : Nat) (v : Int), j < n → l[j]? = some v → v < x) (h2 : ∀ (j : Nat) (v : Int), n ≤ j → l[j]? = some v → x ≤ v) : cntLt x l = n := by
  unfold cntLt
  rw [← List.take_append_drop n l, List.countP_append, List.countP_eq_length.2, List.countP_eq_zero.2, List.length_take, Nat.min_eq_left hn]
  · omega
  · intro v hv
    obtain ⟨j, hj⟩ := List.mem_iff_getElem?.1 hv
    rw [List.getElem?_drop] at hj
    have := h2 (n + j) v (by omega) hj
    simp
    omega
  · intro v hv
    obtain ⟨j, hj⟩ := List.mem_iff_getElem?.1 hv
    rw [List.getElem?_take] at hj
    split at hj
    · rename_i hlt
      exact decide_eq_true (h1 j v hlt hj)
    · simp at hj
theorem srt_le' {ss : List Int} (h : ss.Pairwise (· ≤ ·)) {i j : Nat} {x y : Int} (hij : i ≤ j) (hx : ss[i]? = some x) (hy : ss[j]? = some y) : x ≤ y := by
  rcases Nat.lt_or_ge i j with h1 | h1
  · obtain ⟨e1, e2⟩ := List.getElem?_eq_some_iff.1 hx
    obtain ⟨e3, e4⟩ := List.getElem?_eq_some_iff.1 hy
    have := List.pairwise_iff_getElem.1 h i j e1 e3 h1
    rw [e2, e4] at this
    exact this
  · obtain rfl : i = j := by omega
    rw [hx] at hy
    obtain rfl := Option.some.inj hy
    exact Int.le_refl _
/-- Does the number stand at its place? -/
def hitN (l : List Int) (x : Int) : Bool := match l[cntLt x l]? with
  | none => false
  | some y => y == x
theorem hitN_some {l : List Int} {x y : Int} {n : Nat} (hn : cntLt x l = n) (h : l[n]? = some y) : hitN l x = (y == x) := by
  unfold hitN
  rw [hn]
  simp only [h]
theorem hitN_none {l : List Int} {x : Int} {n : Nat} (hn : cntLt x l = n) (h : l.length ≤ n) : hitN l x = false := by
  unfold hitN
  rw [hn]
  simp only [List.getElem?_eq_none h]
theorem snan_i64 (x : Int) (w : World) : Calls Try.prog 162 #[.int .i64 x] w fun e w' => e = .returned (.bool false) ∧ w = w' := by
  have h : (x != x) = false := by simp
  go_enter Try.func162, Try.ntmps162
  go_wp2
  go_ret
  exact ⟨rfl, rfl⟩
set_option maxHeartbeats 4000000 in
set_option maxRecDepth 100000 in
theorem bsearch_any (v : Value) (l : List Int) (x : Int) (w : World) (hs : Ns w v l) (hp : l.Pairwise (· ≤ ·)) (hn : l.length ≤ 1000000) :
    Calls Try.prog 112 #[v, .int .i64 x] w fun e w' => e = .returned (.tuple #[.int .i64 (cntLt x l : Nat), .bool (hitN l x)]) ∧ Below w.heap.size w w' := by
  obtain ⟨ao, c, rfl, hnc, hc, -⟩ := hs.shape
  obtain ⟨n, hm⟩ : ∃ m, l.length = m := ⟨_, rfl⟩
  have HM := Lib.hid hm
  have HS := Lib.hid hs
  have HP := Lib.hid hp
  rw [hm] at hnc hn HS ⊢
  clear hm hs hp
  go_enter Try.func112, Try.ntmps112
  go_wp2_with fail
  go_loopg [7, 8] n (fun kx s5 s6 wr => ∃ (lo hi : Nat), s5 = .int .i64 lo ∧ s6 = .int .i64 hi ∧ lo ≤ hi ∧ hi ≤ n ∧ hi - lo ≤ kx ∧ Below w.heap.size w wr ∧
    Hid ((∀ (j : Nat) (y : Int), j < lo → l[j]? = some y → y < x) ∧ (∀ (j : Nat) (y : Int), hi ≤ j → l[j]? = some y → x ≤ y)))
  case atStart => exact ⟨0, n, rfl, rfl, Nat.zero_le _, Nat.le_refl _, by omega, Below.refl _ _, Lib.hid ⟨fun j x hj => absurd hj (Nat.not_lt_zero _), fun j x h1 h2 => by have := (List.getElem?_eq_some_iff.1 h2).1; have := HM.out; omega⟩⟩
  case round =>
    obtain ⟨lo, hi, rfl, rfl, hlh, hin, hg, hbr, I⟩ := hrel
    by_cases hlt : lo < hi
    · obtain ⟨M, hM⟩ : ∃ M, (lo + hi) / 2 = M := ⟨_, rfl⟩
      obtain ⟨y, hy⟩ : ∃ y, l[M]? = some y := ⟨_, List.getElem?_eq_getElem (by rw [HM.out]; omega)⟩
      obtain ⟨b, off, rfl, c0⟩ := (HS.out.below hbr).at hy
      have hMi : ((lo : Int) + (hi : Int)) / 2 = (M : Int) := by omega
      have HY := Lib.hid hy
      clear hy
      by_cases hlk : y < x
      · have HD : Hid (decide (y < x) = true) := Lib.hid (decide_eq_true hlk)
        have I2 : Hid ((∀ (j : Nat) (z : Int), j < M + 1 → l[j]? = some z → z < x) ∧ (∀ (j : Nat) (z : Int), hi ≤ j → l[j]? = some z → x ≤ z)) := Lib.hid ⟨fun j z hj hz => by
          have := srt_le' HP.out (show j ≤ M by omega) hz HY.out
          omega, I.out.2⟩
        go_wp2_with fail
        refine (less_i64 y x _).mono ?_
        rw [HD.out]
        rintro e w' ⟨rfl, q, rfl⟩
        go_wp2_with fail
        go_roundg (hi - (M + 1))
        case measure => omega
        case rel => exact ⟨M + 1, hi, by go_num, rfl, by omega, hin, Nat.le_refl _, below_drewN hbr _, I2⟩
      · have HD : Hid (decide (y < x) = false) := Lib.hid (decide_eq_false hlk)
        have I2 : Hid ((∀ (j : Nat) (z : Int), j < lo → l[j]? = some z → z < x) ∧ (∀ (j : Nat) (z : Int), M ≤ j → l[j]? = some z → x ≤ z)) := Lib.hid ⟨I.out.1, fun j z hj hz => by
          have := srt_le' HP.out hj HY.out hz
          omega⟩
        go_wp2_with fail
        refine (less_i64 y x _).mono ?_
        rw [HD.out]
        rintro e w' ⟨rfl, q, rfl⟩
        go_wp2_with fail
        go_roundg (M - lo)
        case measure => omega
        case rel => exact ⟨lo, M, rfl, rfl, by omega, by omega, Nat.le_refl _, below_drewN hbr _, I2⟩
    · obtain rfl : lo = hi := by omega
      have HC : Hid (cntLt x l = lo) := Lib.hid (lt_cnt (by rw [HM.out]; exact hin) I.out.1 I.out.2)
      by_cases hlast : lo < n
      · obtain ⟨y, hy⟩ : ∃ y, l[lo]? = some y := ⟨_, List.getElem?_eq_getElem (by rw [HM.out]; omega)⟩
        obtain ⟨b, off, rfl, c0⟩ := (HS.out.below hbr).at hy
        obtain ⟨D, hD⟩ : ∃ D, (y == x) = D := ⟨_, rfl⟩
        have HH : Hid (hitN l x = D) := Lib.hid (by rw [hitN_some HC.out hy, hD])
        clear hy
        cases D with
        | true =>
          go_wp2_with fail
          go_ret2
          rw [HC.out, HH.out]
          exact ⟨rfl, hbr⟩
        | false =>
          go_wp2_with (go_at_call 162; refine (snan_i64 _ _).mono ?_; rintro e w' ⟨rfl, rfl⟩)
          go_ret2
          rw [HC.out, HH.out]
          exact ⟨rfl, hbr⟩
      · have HH : Hid (hitN l x = false) := Lib.hid (hitN_none HC.out (by rw [HM.out]; omega))
        go_wp2_with fail
        go_ret2
        rw [HC.out, HH.out]
        exact ⟨rfl, hbr⟩
theorem drop_at' {l : List Int} {k : Nat} {x : Int} (h : l[k]? = some x) : l.drop k = x :: l.drop (k + 1) := by
  obtain ⟨h1, h2⟩ := List.getElem?_eq_some_iff.1 h
  rw [← h2, List.drop_eq_getElem_cons h1]
set_option maxHeartbeats 4000000 in
set_option maxRecDepth 100000 in
theorem inserted_any (v : Value) (l : List Int) (z : Int) (w : World) (hs : Ns w v l) (hl : l.length ≤ 1000000) :
    Calls Try.prog 115 #[v, .int .i64 z] w fun e w' => ∃ v', e = .returned v' ∧ w'.ownsRow w.heap.size 2 1 v' (insB l z).length ((insB l z).map (Value.int .i64)) ∧ Below w.heap.size w w' := by
  obtain ⟨ao, c, rfl, hnc, hc, -⟩ := hs.shape
  obtain ⟨n, hm⟩ : ∃ m, l.length = m := ⟨_, rfl⟩
  have HM := Lib.hid hm
  have HS := Lib.hid hs
  rw [hm] at hnc hl HS ⊢
  clear hm hs
  go_enter Try.func115, Try.ntmps115
  go_wp2_with fail
  go_loopw [5, 6, 11] (fun r q i wr => ∃ (k p : Nat) (acc : List Int) (put : Bool), k ≤ n ∧ p ≤ k + 1 ∧ i = .int .i64 k ∧ q = .bool put ∧ Hid (acc.length = p) ∧ Hid (acc ++ (if put = true then l.drop k else insB (l.drop k) z) = insB l z) ∧ Hid (wr.ownsRow w.heap.size 2 1 r p (acc.map (Value.int .i64))) ∧ Below w.heap.size w wr) (fun _ _ i _ => n - (intOf i).toNat)
  case atStart => exact ⟨0, 0, [], false, Nat.zero_le _, by omega, rfl, rfl, Lib.hid rfl, Lib.hid rfl, Lib.hid (World.ownsRow_nil _ _ _ _), Below.refl _ _⟩
  case round =>
    obtain ⟨k, p, acc, put, hk, hp, rfl, rfl, HP, HG, HO, hbel⟩ := hrel
    have hsz := hbel.size
    obtain ⟨uo, uc, rfl, hu1, hu2, -⟩ := own_shape HO.out
    have hown := HO.out
    by_cases hlt : k < n
    case neg =>
      obtain rfl : k = n := by omega
      have hg := HG.out
      rw [List.drop_of_length_le (by rw [HM.out]; exact Nat.le_refl _)] at hg
      cases put with
      | true =>
        have HE : Hid (insB l z = acc) := Lib.hid (by rw [← hg]; simp)
        clear hg
        go_wp2_with fail
        go_ret
        exact ⟨_, rfl, by rw [HE.out, HP.out]; exact HO.out, hbel⟩
      | false =>
        have HE : Hid (insB l z = acc ++ [z]) := Lib.hid (by rw [← hg]; rfl)
        clear hg
        go_wp2_with (at_builtin; refine append1 [.int .i64 z] Sort64.elI64 rfl _ _ rfl hown hbel hbel.size rfl rfl rfl (by intro u hu; simp at hu; rw [hu]; rfl) ?c4 ?c5 ?_)
        case c4 => omega
        case c5 => omega
        intro v7 w7 hown7 hbel7 hgr7
        have HON : Hid (w7.ownsRow w.heap.size 2 1 v7 (insB l z).length ((insB l z).map (Value.int .i64))) := Lib.hid (by
          rw [HE.out, List.length_append, HP.out]
          simpa using hown7)
        clear hown7 hgr7 hown
        go_wp2_with fail
        go_ret
        exact ⟨_, rfl, HON.out, hbel7⟩
    obtain ⟨x, hx⟩ : ∃ x, l[k]? = some x := ⟨_, List.getElem?_eq_getElem (by rw [HM.out]; exact hlt)⟩
    obtain ⟨b, off, rfl, c0⟩ := (HS.out.below hbel).at hx
    have hg := HG.out
    rw [drop_at' hx] at hg
    clear hx
    cases put with
    | true =>
      have HR : Hid ((acc ++ [x]) ++ (if true = true then l.drop (k + 1) else insB (l.drop (k + 1)) z) = insB l z) := Lib.hid (by rw [← hg, if_pos rfl, if_pos rfl, List.append_assoc]; rfl)
      have HLN : Hid ((acc ++ [x]).length = p + 1) := Lib.hid (by rw [List.length_append, HP.out]; rfl)
      clear hg
      go_wp2_with (at_builtin; refine append1 [.int .i64 x] Sort64.elI64 rfl _ _ rfl hown hbel hbel.size rfl rfl rfl (by intro u hu; simp at hu; rw [hu]; rfl) ?c4 ?c5 ?_)
      case c4 => omega
      case c5 => omega
      intro v7 w7 hown7 hbel7 hgr7
      have HON : Hid (w7.ownsRow w.heap.size 2 1 v7 (p + 1) ((acc ++ [x]).map (Value.int .i64))) := Lib.hid (by simpa using hown7)
      clear hown7 hgr7 hown
      go_wp2_with fail
      go_roundw
      case rel => exact ⟨k + 1, p + 1, _, true, by omega, by omega, by go_num, rfl, HLN, HR, HON, hbel7⟩
      case measure => simp [intOf]; omega
    | false =>
      have hpk : p ≤ k := by
        have h1 := congrArg List.length hg
        rw [if_neg (by simp), List.length_append, insB_len, insB_len, HP.out, List.length_cons, List.length_drop, HM.out] at h1
        omega
      by_cases hzx : z < x
      · have HR : Hid (((acc ++ [z]) ++ [x]) ++ (if true = true then l.drop (k + 1) else insB (l.drop (k + 1)) z) = insB l z) := Lib.hid (by rw [← hg, if_pos rfl, if_neg (by simp), insB, if_pos hzx, List.append_assoc, List.append_assoc]; rfl)
        have HLN : Hid (((acc ++ [z]) ++ [x]).length = p + 1 + 1) := Lib.hid (by rw [List.length_append, List.length_append, HP.out]; rfl)
        clear hg
        go_wp2_with (at_builtin; refine append1 [.int .i64 z] Sort64.elI64 rfl _ _ rfl hown hbel hbel.size rfl rfl rfl (by intro u hu; simp at hu; rw [hu]; rfl) ?c4 ?c5 ?_)
        case c4 => omega
        case c5 => omega
        intro v6 w6 hown6 hbel6 hgr6
        have hown66 : w6.ownsRow w.heap.size 2 1 v6 (p + 1) ((acc ++ [z]).map (Value.int .i64)) := by simpa using hown6
        obtain ⟨xo, xc, rfl, hx1, hx2, -⟩ := own_shape hown66
        clear hown6 hgr6 hown
        go_wp2_with (at_builtin; refine append1 [.int .i64 x] Sort64.elI64 rfl _ _ rfl hown66 hbel6 hbel6.size rfl rfl rfl (by intro u hu; simp at hu; rw [hu]; rfl) ?c6 ?c7 ?_)
        case c6 => omega
        case c7 => omega
        intro v7 w7 hown7 hbel7 hgr7
        have HON : Hid (w7.ownsRow w.heap.size 2 1 v7 (p + 1 + 1) (((acc ++ [z]) ++ [x]).map (Value.int .i64))) := Lib.hid (by simpa using hown7)
        clear hown7 hgr7 hown66
        go_wp2_with fail
        go_roundw
        case rel => exact ⟨k + 1, p + 1 + 1, _, true, by omega, by omega, by go_num, rfl, HLN, HR, HON, hbel7⟩
        case measure => simp [intOf]; omega
      · have HR : Hid ((acc ++ [x]) ++ (if false = true then l.drop (k + 1) else insB (l.drop (k + 1)) z) = insB l z) := Lib.hid (by rw [← hg, if_neg (by simp), if_neg (by simp), insB, if_neg hzx, List.append_assoc]; rfl)
        have HLN : Hid ((acc ++ [x]).length = p + 1) := Lib.hid (by rw [List.length_append, HP.out]; rfl)
        clear hg
        go_wp2_with (at_builtin; refine append1 [.int .i64 x] Sort64.elI64 rfl _ _ rfl hown hbel hbel.size rfl rfl rfl (by intro u hu; simp at hu; rw [hu]; rfl) ?c4 ?c5 ?_)
        case c4 => omega
        case c5 => omega
        intro v7 w7 hown7 hbel7 hgr7
        have HON : Hid (w7.ownsRow w.heap.size 2 1 v7 (p + 1) ((acc ++ [x]).map (Value.int .i64))) := Lib.hid (by simpa using hown7)
        clear hown7 hgr7 hown
        go_wp2_with fail
        go_roundw
        case rel => exact ⟨k + 1, p + 1, _, false, by omega, by omega, by go_num, rfl, HLN, HR, HON, hbel7⟩
        case measure => simp [intOf]; omega
end Go.Proofs.Ytcljeedmiobepaa.Rk
