/-
  Lists of numbers at []int: the walks of slices.Clone, Equal, Grow, Concat, Index, Contains.
-/
import Derived.Test.YtcljeedmiobepaaRk4
import Derived.Test.YtcljeedmiobepaaSortI
import Derived.Test.YtcljeedmiobepaaIxLaw
import Derived.Lib.SmallJoins
namespace Go.Proofs.Ytcljeedmiobepaa.Ix
open Go.RowKit Go.Gh Go.Proofs.Ytcljeedmiobepaa.Rk
set_option linter.unusedVariables false
theorem cloneI_any (v : Value) (l : List Int) (w : World) (hv : Ns w v l) (hn : l.length ≤ 1000000000000) :
    Calls Try.prog 82 #[v] w fun e w' => ∃ v', e = .returned v' ∧ w'.ownsRow w.heap.size 3 1 v' l.length (l.map (Value.int .i64)) ∧ Below w.heap.size w w' := by
  unfold Ns at hv
  obtain ⟨n, hm⟩ : ∃ n, l.length = n := ⟨_, rfl⟩
  rw [hm] at hv hn ⊢
  have HM := Lib.hid hm
  obtain ⟨ao, c, rfl, hnc, hc, hlen⟩ := hv.shape
  have HN := Lib.hid hn
  clear hn hm
  cases ao with
  | none =>
    have hn0 : n = 0 := by
      obtain ⟨ao', cap, h1, h2, _, h4, _, h6⟩ := hv
      simp at h1
      have := h4 h1.1.symm
      omega
    subst hn0
    have hl : l = [] := List.length_eq_zero_iff.1 HM.out
    subst hl
    have he := Lib.run_eql_slice_nil (P := Try.prog) w 130 3 none 0 c 0 0 Try.underlying130
    go_enter Try.func82, Try.ntmps82
    go_wp2_with fail
    go_ret
    exact ⟨_, rfl, World.ownsRow_nil _ _ _ _, Below.refl _ _⟩
  | some a =>
    have he := Lib.run_eql_slice_nil (P := Try.prog) w 130 3 (some a) n c 0 0 Try.underlying130
    have ho := own_build (e := 3) (size := 1) (n := 0) w [] (Nat.le_refl _) rfl (by decide)
    have hs2 := hv.alloc (Obj.cells ([] : List Value).toArray 3)
    clear hlen
    go_enter Try.func82, Try.ntmps82
    go_wp2_with (at_builtin; refine appendS SortI.elInt rfl _ _ rfl ho ((Below.refl _ _).alloc (Nat.le_refl _) _) ?c1 rfl rfl hs2 (SortI.ints_one _) ?c2 ?c3 ?_)
    case c1 => simp
    case c2 => have := HN.out; omega
    case c3 => have := HN.out; omega
    intro v' w1 hown' hbel' _
    go_wp2
    go_ret
    exact ⟨v', rfl, by simpa using hown', hbel'⟩
set_option maxRecDepth 100000 in
theorem equalI_any (v u : Value) (l : List Int) (w : World) (hs : Ns w v l) (ht : Ns w u l) :
    Calls Try.prog 86 #[v, u] w fun e w' => e = .returned (.bool true) ∧ ∃ q, w' = w.drewN q := by
  obtain ⟨ao, c, rfl, hnc, hc, _⟩ := hs.shape
  obtain ⟨bo, d, rfl, hod, hd, _⟩ := ht.shape
  obtain ⟨n, hm⟩ : ∃ n, l.length = n := ⟨_, rfl⟩
  have HS := Lib.hid hs
  have HT := Lib.hid ht
  have HM := Lib.hid hm
  rw [hm] at hnc hod HS HT ⊢
  clear hs ht hm
  go_enter Try.func86, Try.ntmps86
  go_wp2_with fail
  go_loopw [5, 13] (fun _ i wr => ∃ k : Nat, k ≤ n ∧ i = .int .i64 k ∧ ∃ q, wr = w.drewN q) (fun _ i _ => n - (intOf i).toNat)
  case atStart => exact ⟨0, by omega, rfl, 0, rfl⟩
  case round =>
    obtain ⟨k, hk, rfl, q, hq⟩ := hrel
    have hbr : Below w.heap.size w wr := by rw [hq]; exact below_drewN (Below.refl _ _) _
    have HQ := Lib.hid hq
    clear hq
    by_cases hlt : k < n
    · obtain ⟨z, hz⟩ : ∃ z, l[k]? = some z := ⟨_, List.getElem?_eq_getElem (by rw [HM.out]; exact hlt)⟩
      obtain ⟨b, off, rfl, hc1⟩ := (HS.out.below hbr).at hz
      obtain ⟨b', off', rfl, hc2⟩ := (HT.out.below hbr).at hz
      have hzz : (z != z) = false := by simp
      clear hz
      go_wp2_with fail
      go_quiet (fail)
      go_wp2
      go_roundw
      case rel => exact ⟨k + 1, by omega, by go_num, q + nq, by rw [HQ.out]; exact drew_add _ _ _⟩
      case measure => simp [intOf]; omega
    · have hkn : k = n := by omega
      subst hkn
      go_wp2_with fail
      go_ret
      exact ⟨rfl, q, HQ.out⟩
set_option maxHeartbeats 2000000 in
set_option maxRecDepth 100000 in
theorem growI_any (n : Nat) (w : World) (hn : n ≤ 1000000000) :
    Calls Try.prog 196 #[.slice none 0 0, .int .i64 n] w fun e w' => ∃ v', e = .returned v' ∧ w'.ownsRow w.heap.size 3 1 v' 0 [] ∧ Below w.heap.size w w' := by
  rcases Nat.eq_zero_or_pos n with rfl | hpos
  · go_enter Try.func196, Try.ntmps196
    go_wp2_with fail
    go_ret
    exact ⟨_, rfl, World.ownsRow_nil _ _ _ _, Below.refl _ _⟩
  · obtain ⟨i0, z0, hi0, hz0, hs0, hby0, hzs0⟩ := SortI.elInt.info
    have hr : ∀ ty, (Builtin.append_ #[130, 3] ty #[.slice none 0 0, .int .i64 n]).run Try.prog w = .ok (.slice (some ⟨w.heap.size, 0, none⟩) n (grownCap w n 0 3)) (w.drew.alloc (.cells (Builtin.zeroCells z0.cells n ++ Builtin.zeroCells z0.cells (grownCap w n 0 3 - n)) 3)) :=
      fun ty => Lib.run_append_nil_zeros w 130 3 ty 3 i0 z0 .i64 .i64 SortI.elInt.und Try.underlying3 hi0 hz0 n hpos (by omega) (by omega) (by rw [hby0]; omega)
    obtain ⟨hrow, -⟩ := zeros_row (w := w) (e := 3) (k := 1) (n := n) (i := 0) (B := w.heap.size) (old := 0) (z := z0) (xs := []) (by rw [hzs0]) rfl (Nat.zero_le _) hpos (Nat.le_refl _) (by unfold maxLen; omega)
    rw [Nat.sub_zero, show ([] : List Value).toArray ++ Builtin.zeroCells z0.cells n = Builtin.zeroCells z0.cells n from by simp] at hrow
    have hown := own_none hrow
    have hGn := grownCap_ge w n 0 3
    have hG63 := grownCap_le_maxLen w n 0 3 (by unfold maxLen; omega)
    unfold maxLen at hG63
    obtain ⟨W1, hW1⟩ : ∃ W1, W1 = w.drew.alloc (.cells (Builtin.zeroCells z0.cells n ++ Builtin.zeroCells z0.cells (grownCap w n 0 3 - n)) 3) := ⟨_, rfl⟩
    have hb1 : Below w.heap.size w W1 := by rw [hW1]; exact (Below.refl _ _).drew.alloc (Nat.le_refl _) _
    rw [← hW1] at hr hown
    obtain ⟨G, hG⟩ : ∃ G, G = grownCap w n 0 3 := ⟨_, rfl⟩
    rw [← hG] at hr hown hGn hG63
    have HO := Lib.hid hown
    have HR := Lib.hid hr
    clear hrow hown hW1 hG hr
    go_enter Try.func196, Try.ntmps196
    go_wp2_with (at_builtin; refine wpList_append_zeros rfl _ _ rfl rfl rfl HR.out ?_)
    go_ret
    exact ⟨_, rfl, HO.out, hb1⟩
theorem flatI_len : ∀ {lv : List (List Int)}, (∀ l ∈ lv, l.length ≤ 1048576) → lv.flatten.length ≤ 1048576 * lv.length
  | [], _ => by simp
  | l :: lv, h => by
    have h1 := flatI_len (lv := lv) (fun x hx => h x (by simp [hx]))
    have h2 := h l (by simp)
    rw [List.flatten_cons, List.length_append, List.length_cons]
    omega
set_option maxHeartbeats 4000000 in
set_option maxRecDepth 100000 in
theorem concatI_any (u : Value) (lv : List (List Int)) (w : World) (hu : Sp LvR 1 w u lv) (h64 : ∀ l ∈ lv, l.length ≤ 1048576) (hL20 : lv.length ≤ 20) :
    Calls Try.prog 144 #[u] w fun e w' => ∃ v', e = .returned v' ∧ w'.ownsRow w.heap.size 3 1 v' lv.flatten.length (lv.flatten.map (Value.int .i64)) ∧ Below w.heap.size w w' := by
  obtain ⟨bo, d, rfl, hod, hd⟩ := hu.shape
  obtain ⟨L, hL⟩ : ∃ n, lv.length = n := ⟨_, rfl⟩
  have HU := Lib.hid hu
  rw [hL] at HU hod hL20 ⊢
  have HL := Lib.hid hL
  have H64 := Lib.hid h64
  have HFL : Hid (∀ k, ((lv.take k).flatten).length ≤ 1048576 * 20) := Lib.hid (fun k => by
    have h1 := flatI_len (lv := lv.take k) (fun l hl => h64 l (List.mem_of_mem_take hl))
    rw [List.length_take] at h1
    omega)
  clear hL hu h64
  go_enter Try.func144, Try.ntmps144
  go_wp2_with fail
  go_loopw [3, 11] (fun y i wr => ∃ k : Nat, k ≤ L ∧ i = .int .i64 k ∧ y = .int .i64 ((lv.take k).flatten.length : Nat) ∧ w = wr) (fun _ i _ => L - (intOf i).toNat)
  case atStart => exact ⟨0, Nat.zero_le _, rfl, rfl, rfl⟩
  case round =>
    obtain ⟨k, hk, rfl, rfl, rfl⟩ := hrel
    by_cases hlt : k < L
    · obtain ⟨l, hl⟩ : ∃ l, lv[k]? = some l := ⟨_, List.getElem?_eq_getElem (by rw [HL.out]; exact hlt)⟩
      obtain ⟨g, off, cs, rfl, ⟨t, rfl, hns⟩, _, hck⟩ := HU.out.get hl
      have c0 := hck 0 _ rfl
      rw [Nat.add_zero, Nat.mul_one] at c0
      obtain ⟨lo, lc, rfl, hlc, hlc2, -⟩ := hns.shape
      have hf := flat_take hl
      have h1 := HFL.out k
      have h2 := HFL.out (k + 1)
      obtain ⟨p, hp⟩ : ∃ p, (lv.take k).flatten.length = p := ⟨_, rfl⟩
      obtain ⟨m, hm⟩ : ∃ m, l.length = m := ⟨_, rfl⟩
      have HF : Hid ((lv.take (k + 1)).flatten.length = p + m) := Lib.hid (by rw [hf, List.length_append, hp, hm])
      rw [hf, List.length_append] at h2
      rw [hp] at h1 h2 ⊢
      rw [hm] at h2 hlc c0
      clear hck hl hns hf hp hm
      go_wp2_with fail
      go_roundw
      case rel => exact ⟨k + 1, by omega, by go_num, by rw [HF.out]; go_num, by first | rfl | trivial⟩
      case measure => simp [intOf]; omega
    · have hkL : k = L := by omega
      subst hkL
      have hta : lv.take k = lv := List.take_of_length_le (by rw [HL.out]; exact Nat.le_refl _)
      have h1 := HFL.out k
      rw [hta] at h1 ⊢
      obtain ⟨p, hp⟩ : ∃ p, lv.flatten.length = p := ⟨_, rfl⟩
      have HP := Lib.hid hp
      rw [hp] at h1 ⊢
      clear hta hp
      go_wp2_with fail
      refine (growI_any p _ (by omega)).mono ?_
      rintro e w1 ⟨v1, rfl, hown1, hb1⟩
      have HO1 := Lib.hid hown1
      have HB1 := Lib.hid hb1
      clear hown1 hb1
      go_wp2_with fail
      go_loopw [6, 27] (fun v i wr => ∃ j : Nat, j ≤ k ∧ i = .int .i64 j ∧ Hid (wr.ownsRow w.heap.size 3 1 v (lv.take j).flatten.length ((lv.take j).flatten.map (Value.int .i64))) ∧ Below w.heap.size w wr) (fun _ i _ => k - (intOf i).toNat)
      case atStart => exact ⟨0, Nat.zero_le _, rfl, HO1, HB1.out⟩
      case round =>
        obtain ⟨j, hj, rfl, HO, hbr⟩ := hrel
        obtain ⟨uo, uc, rfl, huc, -, -⟩ := own_shape HO.out
        by_cases hlt2 : j < k
        · obtain ⟨l, hl⟩ : ∃ l, lv[j]? = some l := ⟨_, List.getElem?_eq_getElem (by rw [HL.out]; exact hlt2)⟩
          obtain ⟨g, off, cs, rfl, ⟨t, rfl, hns⟩, _, hck⟩ := (HU.out.below lvR_mono hbr).get hl
          have c0 := hck 0 _ rfl
          rw [Nat.add_zero, Nat.mul_one] at c0
          obtain ⟨lo, lc, rfl, hlc, hlc2, -⟩ := hns.shape
          have hf := flat_take hl
          have h1 := HFL.out j
          have h2 := HFL.out (j + 1)
          rw [hf, List.length_append] at h2
          have HF : Hid ((lv.take (j + 1)).flatten = (lv.take j).flatten ++ l) := Lib.hid hf
          have HNS := Lib.hid hns
          have hown := HO.out
          clear hck hl hf hns
          go_wp2_with (at_builtin; refine wpList_append_gen SortI.elInt rfl _ _ rfl hown hbr rfl rfl HNS.out (SortI.ints_one _) ?c1 ?c2 hbr.size ?_)
          case c1 => omega
          case c2 => omega
          intro v7 w7 hown7 hbel7 _
          have HO7 : Hid (w7.ownsRow w.heap.size 3 1 v7 (lv.take (j + 1)).flatten.length ((lv.take (j + 1)).flatten.map (Value.int .i64))) := Lib.hid (by
            rw [HF.out, List.length_append, List.map_append]
            simpa using hown7)
          clear hown7 hown
          go_wp2_with fail
          go_roundw
          case rel => exact ⟨j + 1, by omega, by go_num, HO7, hbel7⟩
          case measure => simp [intOf]; omega
        · have hjk : j = k := by omega
          subst hjk
          have HO7 := HO.out
          rw [List.take_of_length_le (by rw [HL.out]; exact Nat.le_refl _), HP.out] at HO7
          have HO8 := Lib.hid HO7
          clear HO7
          go_wp2_with fail
          go_ret
          exact ⟨_, rfl, by first | exact HO8.out | (rw [List.take_of_length_le (by rw [HL.out]; exact Nat.le_refl _), HP.out]; exact HO8.out), hbr⟩
/-- Where a number stands first. -/
def IdxAt (l : List Int) (x i : Int) : Prop := (0 ≤ i ∧ x ∈ l) ∨ (i = -1 ∧ x ∉ l)
set_option maxRecDepth 100000 in
theorem indexI_any (v : Value) (l : List Int) (x : Int) (w : World) (hs : Ns w v l) :
    Calls Try.prog 139 #[v, .int .i64 x] w fun e w' => ∃ i, e = .returned (.int .i64 i) ∧ IdxAt l x i ∧ w' = w := by
  obtain ⟨ao, c, rfl, hnc, hc, _⟩ := hs.shape
  obtain ⟨n, hm⟩ : ∃ n, l.length = n := ⟨_, rfl⟩
  have HS := Lib.hid hs
  have HM := Lib.hid hm
  rw [hm] at hnc HS ⊢
  clear hs hm
  go_enter Try.func139, Try.ntmps139
  go_wp2_with fail
  go_loopw [5, 8] (fun _ i wr => ∃ k : Nat, k ≤ n ∧ i = .int .i64 k ∧ Hid (x ∉ l.take k) ∧ w = wr) (fun _ i _ => n - (intOf i).toNat)
  case atStart => exact ⟨0, by omega, rfl, Lib.hid (by simp), rfl⟩
  case round =>
    obtain ⟨k, hk, rfl, HX, rfl⟩ := hrel
    by_cases hlt : k < n
    · obtain ⟨z, hz⟩ : ∃ z, l[k]? = some z := ⟨_, List.getElem?_eq_getElem (by rw [HM.out]; exact hlt)⟩
      obtain ⟨b, off, rfl, hc1⟩ := HS.out.at hz
      by_cases hxz : x = z
      · have HF : Hid (IdxAt l x k) := Lib.hid (Or.inl ⟨by omega, by rw [hxz]; exact List.mem_of_getElem? hz⟩)
        have t1 : (x == z) = true := by rw [hxz]; simp
        clear hz hxz
        go_wp2_with fail
        go_ret
        exact ⟨_, rfl, HF.out, rfl⟩
      · have HX2 : Hid (x ∉ l.take (k + 1)) := Lib.hid (by
          obtain ⟨h1, h2⟩ := List.getElem?_eq_some_iff.1 hz
          rw [List.take_succ_eq_append_getElem h1, h2, List.mem_append]
          rintro (h | h)
          · exact HX.out h
          · exact hxz (by simpa using h))
        have t1 : (x == z) = false := beq_eq_false_iff_ne.2 hxz
        clear hz hxz
        go_wp2_with fail
        go_roundw
        case rel => exact ⟨k + 1, by omega, by go_num, HX2, by first | rfl | trivial⟩
        case measure => simp [intOf]; omega
    · have hkn : k = n := by omega
      have HF : Hid (IdxAt l x (-1)) := Lib.hid (Or.inr ⟨rfl, by
        have := HX.out
        rwa [List.take_of_length_le (by rw [HM.out, hkn]; exact Nat.le_refl _)] at this⟩)
      subst hkn
      go_wp2_with fail
      go_ret
      exact ⟨_, rfl, HF.out, rfl⟩
set_option maxRecDepth 100000 in
theorem containsI_any (v : Value) (l : List Int) (x : Int) (w : World) (D : Bool) (hs : Ns w v l) (hD : decide (x ∈ l) = D) :
    Calls Try.prog 83 #[v, .int .i64 x] w fun e w' => e = .returned (.bool D) ∧ w' = w := by
  obtain ⟨ao, c, rfl, -, -, _⟩ := hs.shape
  obtain ⟨n, hm⟩ : ∃ n, l.length = n := ⟨_, rfl⟩
  have HS := Lib.hid hs
  have HD := Lib.hid hD
  rw [hm] at HS ⊢
  clear hs hD hm
  go_enter Try.func83, Try.ntmps83
  go_wp2_with fail
  refine (indexI_any _ l x _ HS.out).mono ?_
  rintro e w1 ⟨i, rfl, hat, rfl⟩
  rcases hat with ⟨h1, h2⟩ | ⟨h1, h2⟩
  · have h3 : D = true := by rw [← HD.out]; exact decide_eq_true h2
    subst h3
    clear h2
    go_wp2_with fail
    go_ret
    exact ⟨rfl, rfl⟩
  · have h3 : D = false := by rw [← HD.out]; exact decide_eq_false h2
    subst h3
    subst h1
    clear h2
    go_wp2_with fail
    go_ret
    exact ⟨rfl, rfl⟩
end Go.Proofs.Ytcljeedmiobepaa.Ix
