/-
  strings.IndexAny(s, "!=") at whatever bytes: a rune that is none of ASCII is none of these two.
-/
import Derived.Test.YtlfhcjhbnakamaaGreatDoorSg1
import Derived.Test.YtlfhcjhbnakamaaGreatDoorSg4
import Derived.Test.YtlfhcjhbnakamaaGreatDoorSg8
import Derived.Laws.RangeAny
import Derived.Laws.Runes
import Derived.Deep.LoopGhost
import Derived.Deep.QuietTactic
import Derived.BigQuiet
import Derived.Lib.IndexAny
import Derived.Lib.OthersKept
import Derived.WalkMore
import Derived.BigRegion
namespace Go.Proofs.YtlfhcjhbnakamaaGreatDoor.Iny
open Go.RowKit Go.Gh Go.Lib
set_option linter.unusedVariables false
set_option linter.unusedSimpArgs false
theorem get_bang (s : ByteArray) (k : Nat) (h : k < s.size) : s.get! k = s[k]'h := by
  simp [ByteArray.get!, getElem!_pos, h]
  rfl
/-- What a rune's further bytes are. -/
theorem decode_cont (s : ByteArray) (pos : Nat) : ∀ k, 1 ≤ k → k < (Utf8.decode s pos).2 → ∃ h : pos + k < s.size, 128 ≤ (s[pos + k]'h).toNat := by
  have hc : ∀ k, (decide (pos + k < s.size) && (s.get! (pos + k)).toNat / 64 == 2) = true → ∃ h : pos + k < s.size, 128 ≤ (s[pos + k]'h).toNat := by
    intro k hk
    simp only [Bool.and_eq_true, decide_eq_true_eq, beq_iff_eq] at hk
    refine ⟨hk.1, ?_⟩
    have := hk.2
    rw [get_bang s _ hk.1] at this
    omega
  intro k h1 h2
  unfold Utf8.decode at h2
  simp only at h2
  split at h2
  · omega
  split at h2
  · rename_i hq
    rw [Bool.and_eq_true] at hq
    split at h2
    · obtain rfl : k = 1 := by omega
      exact hc 1 hq.2
    · omega
  split at h2
  · rename_i hq
    rw [Bool.and_eq_true, Bool.and_eq_true] at hq
    split at h2
    · have : k = 1 ∨ k = 2 := by omega
      rcases this with rfl | rfl
      · exact hc 1 hq.1.2
      · exact hc 2 hq.2
    · omega
  split at h2
  · rename_i hq
    rw [Bool.and_eq_true, Bool.and_eq_true, Bool.and_eq_true] at hq
    split at h2
    · have : k = 1 ∨ k = 2 ∨ k = 3 := by omega
      rcases this with rfl | rfl | rfl
      · exact hc 1 hq.1.1.2
      · exact hc 2 hq.1.2
      · exact hc 3 hq.2
    · omega
  · omega
theorem valid_lib (r : Int) : Lib.validRune r = Utf8.valid r := by
  rw [validRune_eq]
  rfl
theorem iter_below (w : World) (s : ByteArray) (i : Nat) : Below w.heap.size w (w.iter s i) := (Below.refl _ _).alloc (Nat.le_refl _) _
def bang : ByteArray := ⟨#[33, 61]⟩
set_option maxHeartbeats 4000000 in
set_option maxRecDepth 100000 in
theorem irune_high (r : Int) (w : World) (h1 : 128 ≤ r) (h2 : r ≤ 2147483647) : Calls Tryz.prog 82 #[.string ⟨#[33, 61]⟩, .int .i32 r] w fun e w' => e = .returned (.int .i64 (-1)) ∧ Below w.heap.size w w' := by
  have t1 : decide (r < 128) = false := decide_eq_false (by omega)
  have t0 : decide ((0 : Int) ≤ r) = true := decide_eq_true (by omega)
  by_cases hr : r = 65533
  · subst hr
    clear h1 h2 t1 t0
    go_enter Tryz.func82, Tryz.ntmps82
    go_wp2_with fail
    go_loopg [5, 6] 2 (fun g _ _ wx => ∃ i : Nat, i + g = 2 ∧ wx = w.iter ⟨#[33, 61]⟩ i)
    case atStart => exact ⟨0, by omega, rfl⟩
    case round =>
      obtain ⟨i, hig, rfl⟩ := hrel
      cases gk with
      | zero =>
        obtain rfl : i = 2 := by omega
        have hnx := run_next_end (P := Tryz.prog) w ⟨#[33, 61]⟩ 2
        have HB := Lib.hid (iter_below w ⟨#[33, 61]⟩ 2)
        go_wp2_with fail
        go_ret
        exact ⟨rfl, HB.out⟩
      | succ g =>
        have h01 : i = 0 ∨ i = 1 := by omega
        rcases h01 with rfl | rfl
        · have hnx := fun ty => run_next_ascii (P := Tryz.prog) w ⟨#[33, 61]⟩ 0 ty (by decide) (by decide)
          have e0 : ((⟨#[33, 61]⟩ : ByteArray)[0]'(by decide)).toNat = 33 := by decide
          simp only [e0] at hnx
          go_wp2_with fail
          go_roundg g
          case measure => omega
          case rel => exact ⟨1, by omega, rfl⟩
        · have hnx := fun ty => run_next_ascii (P := Tryz.prog) w ⟨#[33, 61]⟩ 1 ty (by decide) (by decide)
          have e0 : ((⟨#[33, 61]⟩ : ByteArray)[1]'(by decide)).toNat = 61 := by decide
          simp only [e0] at hnx
          go_wp2_with fail
          go_roundg g
          case measure => omega
          case rel => exact ⟨2, by omega, rfl⟩
  have t2 : (r == 65533) = false := beq_eq_false_iff_ne.2 hr
  by_cases hv : Lib.validRune r = true
  case neg =>
    have hv : Lib.validRune r = false := by simpa using hv
    have HV := Lib.hid (YtlfhcjhbnakamaaGreatDoor.utf8_ValidRune r)
    rw [hv] at HV
    clear hv hr h1 h2
    go_enter Tryz.func82, Tryz.ntmps82
    go_wp2_with (go_at_call 96; refine (HV.out _).mono ?_; rintro e w1 ⟨rfl, rfl⟩)
    go_ret
    exact ⟨rfl, Below.refl _ _⟩
  have HV := Lib.hid (YtlfhcjhbnakamaaGreatDoor.utf8_ValidRune r)
  rw [hv] at HV
  obtain ⟨f1, f2, f3⟩ := encode_facts r (by rw [← valid_lib]; exact hv) h1
  have hcv : ∀ W, (convert 21 9 (.int .i32 r)).run Tryz.prog W = .ok (.string (Utf8.encode r)) W := fun W => run_convert_int_string W 21 9 .i32 r (by rw [Tryz.underlying21]; rfl) Tryz.underlying9
  generalize Utf8.encode r = E at *
  clear hv hr h1 h2
  obtain ⟨n, hn⟩ : ∃ n, E.size = n := ⟨_, rfl⟩
  by_cases hn2 : n = 2
  · subst hn2
    have hlast : 1 < E.size := by omega
    have h128 : 128 ≤ (E[1]'hlast).toNat := by
      have := f3 (by omega)
      simp only [hn] at this
      exact this
    obtain ⟨c, hc⟩ : ∃ c : UInt8, E[1]'hlast = c := ⟨_, rfl⟩
    rw [hc] at h128
    have HIB : Hid (∀ W, Calls Tryz.prog 95 #[.string ByteArray.empty, .int .u8 c.toNat] W fun e w' => e = .returned (.int .i64 (-1)) ∧ w' = W) := Lib.hid (fun W => YtlfhcjhbnakamaaGreatDoor.strings_IndexByte ByteArray.empty c.toNat W)
    obtain ⟨m, hm⟩ : ∃ m, c.toNat = m := ⟨_, rfl⟩
    have hcm : (E[1]'hlast).toNat = m := by rw [hc]; exact hm
    rw [hm] at HIB h128
    have e61 : ((⟨#[33, 61]⟩ : ByteArray)[1]'(by decide)).toNat = 61 := by decide
    have hex : (⟨#[33, 61]⟩ : ByteArray).extract 2 2 = ⟨#[]⟩ := by decide
    have hw2 : IntKind.i64.wrap 2 = 2 := by decide
    have t5 : ((61 : Int) != (m : Int)) = true := by rw [bne_iff_ne]; omega
    clear f1 f2 f3 hc
    go_enter Tryz.func82, Tryz.ntmps82
    go_wp2_with (go_at_call 96; refine (HV.out _).mono ?_; rintro e w1 ⟨rfl, rfl⟩)
    go_step3
    go_wp2_with fail
    go_loopw [9, 10] (fun i f wr => i = .int .i64 1 ∧ wr = w1) (fun _ _ _ => 0)
    case atStart => exact ⟨rfl, rfl⟩
    case round =>
      obtain ⟨rfl, hwe⟩ := hrel
      have hwe := hwe.symm
      subst hwe
      go_wp2_with fail
      go_step3
      go_wp2_with fail
      go_quiet (fail)
      go_wp2_with fail
      have HBQ := Lib.hid (below_drewN (Below.refl w1.heap.size w1) nq)
      generalize w1.drewN nq = wq at HBQ ⊢
      go_quiet ((go_at_call 95; refine Calls.quiet_of_same (HIB.out _)))
      go_wp2_with fail
      rw [Exit.noGoto_ret]
      go_wp2_with fail
      rw [Exit.noGoto_ret]
      go_ret
      exact ⟨rfl, below_drewN HBQ.out _⟩
  · have hn3 : (2 : Int) ≤ (n : Int) - 1 := by omega
    have hn5 : (n : Int) ≤ 4 := by omega
    clear f1 f2 f3 hn2
    go_enter Tryz.func82, Tryz.ntmps82
    go_wp2_with (go_at_call 96; refine (HV.out _).mono ?_; rintro e w1 ⟨rfl, rfl⟩)
    go_step3
    go_wp2_with fail
    go_loopw [9, 10] (fun i f wr => i = .int .i64 ((n : Int) - 1) ∧ wr = w1) (fun _ _ _ => 0)
    case atStart => exact ⟨rfl, rfl⟩
    case round =>
      obtain ⟨rfl, hwe⟩ := hrel
      have hwe := hwe.symm
      subst hwe
      go_wp2_with fail
      go_ret
      exact ⟨rfl, Below.refl _ _⟩
theorem bang_data : bang.data.toList = [33, 61] := rfl
theorem high_none {x : UInt8} (h : 128 ≤ x.toNat) : ([33, 61] : List UInt8).contains x = false := by
  have h1 : x ≠ 33 := by rintro rfl; revert h; decide
  have h2 : x ≠ 61 := by rintro rfl; revert h; decide
  simp [h1, h2]
theorem noany_run {l : List UInt8} {c : List UInt8} {i d : Nat} (h : NoAny l c i) (hd : ∀ k x, k < d → l[i + k]? = some x → c.contains x = false) : NoAny l c (i + d) := by
  intro j b hj hb
  rcases Nat.lt_or_ge j i with h' | h'
  · exact h j b h' hb
  · have e : i + (j - i) = j := by omega
    exact hd (j - i) b (by omega) (by rw [e]; exact hb)
set_option maxHeartbeats 8000000 in
set_option maxRecDepth 100000 in
theorem iny_short (s : ByteArray) (w : World) (h8 : s.size ≤ 8) : Calls Tryz.prog 71 #[.string s, .string ⟨#[33, 61]⟩] w fun e w' => e = .returned (.int .i64 (Lib.indexAny s.data.toList [33, 61])) ∧ Below w.heap.size w w' := by
  have hn1 : decide ((8 : Int) < (s.size : Int)) = false := decide_eq_false (by omega)
  have HSU := Lib.hid (fun W => YtlfhcjhbnakamaaGreatDoor.strings_shouldUseASCIISet s.size W)
  rw [hn1] at HSU
  have hemp : (⟨#[33, 61]⟩ : ByteArray).toList.isEmpty = false := by rw [ByteArray.toList_mk]; rfl
  clear hn1
  obtain ⟨R, hR⟩ : ∃ R, Lib.indexAny s.data.toList [33, 61] = R := ⟨_, rfl⟩
  rw [hR]
  have HR := Lib.hid hR
  clear hR
  go_enter Tryz.func71, Tryz.ntmps71
  go_wp2_with (go_at_call 83; refine (HSU.out _).mono ?_; rintro e w1 ⟨rfl, rfl⟩)
  go_wp2_with fail
  obtain ⟨K, hK⟩ : ∃ K, K = w1.heap.size := ⟨_, rfl⟩
  have H0 : Hid (Below w1.heap.size w1 (w1.iter s 0) ∧ (w1.iter s 0).heap[K]? = some (.stringIter s 0)) := Lib.hid ⟨iter_below w1 s 0, by rw [hK]; exact w1.iter_heap s 0⟩
  have HK := Lib.hid hK
  rw [← hK]
  clear hK
  go_loopg [9, 10] s.size (fun g _ _ wx => ∃ i : Nat, i + g = s.size ∧ wx.heap[K]? = some (.stringIter s i) ∧ Hid (Below w1.heap.size w1 wx) ∧ Hid (Lib.NoAny s.data.toList [33, 61] i))
  case atStart => exact ⟨0, by omega, H0.out.2, Lib.hid H0.out.1, Lib.hid (Lib.NoAny.zero _ _)⟩
  case round =>
    obtain ⟨i, hig, hki, HB, HN⟩ := hrel
    by_cases hi : i < s.size
    case neg =>
      obtain rfl : i = s.size := by omega
      have hnx := fun ty => run_next_end_at (P := Tryz.prog) wr K s s.size ty hki hi
      have HRR : Hid (R = -1) := Lib.hid (by rw [← HR.out]; exact Lib.indexAny_none (by rw [← Lib.size_eq]; exact HN.out))
      clear hki
      go_wp2_with fail
      go_ret
      exact ⟨by rw [HRR.out]; rfl, HB.out⟩
    obtain ⟨x, hx⟩ : ∃ x : UInt8, s[i]'hi = x := ⟨_, rfl⟩
    have hxl : s.data.toList[i]? = some x := by rw [← hx]; exact Lib.data_getElem? s i hi
    have Hx := Lib.hid hxl
    have hKl : K < wr.heap.size := (Array.getElem?_eq_some_iff.1 hki).1
    have HIH := Lib.hid (fun p => iterAt_heap wr K s i p hki)
    have HIB := Lib.hid (fun p => below_iterAt HB.out (k := K) (by rw [HK.out]; exact Nat.le_refl _) s p)
    clear hxl
    by_cases hx128 : x.toNat < 128
    · have hnx := fun ty => run_next_ascii_at (P := Tryz.prog) wr K s i ty hki hi (by rw [hx]; exact hx128)
      rw [hx] at hnx
      have HCO := Lib.hid (Lib.contains_iff_indexByte [33, 61] x)
      have hback : ((x.toNat : Int)).toNat.toUInt8 = x := by simp
      have HIR := Lib.hid (fun W => YtlfhcjhbnakamaaGreatDoor.strings_IndexRune_ascii ⟨#[33, 61]⟩ x.toNat W (by omega) (by omega))
      rw [hback] at HIR
      have ei : (⟨#[33, 61]⟩ : ByteArray).data.toList = [33, 61] := rfl
      rw [ei] at HIR
      obtain ⟨q, hq⟩ : ∃ q, Lib.indexByte [33, 61] x = q := ⟨_, rfl⟩
      rw [hq] at HIR HCO
      obtain ⟨m, hm⟩ : ∃ m, x.toNat = m := ⟨_, rfl⟩
      rw [hm] at hnx HIR hx128
      clear hx hback ei hq hm hki
      by_cases hin : (0 : Int) ≤ q
      · have HRR : Hid (R = i) := Lib.hid (by rw [← HR.out]; exact Lib.indexAny_hit HN.out Hx.out (by rw [HCO.out]; exact decide_eq_true hin))
        go_wp2_with (go_at_call 82; refine (HIR.out _).mono ?_; rintro e w3 ⟨rfl, rfl⟩)
        go_ret
        exact ⟨by rw [HRR.out]; rfl, HIB.out _⟩
      · have HC2 : Hid (([33, 61] : List UInt8).contains x = false) := Lib.hid (by rw [HCO.out]; exact decide_eq_false hin)
        go_wp2_with (go_at_call 82; refine (HIR.out _).mono ?_; rintro e w3 ⟨rfl, rfl⟩)
        go_roundg (s.size - (i + 1))
        case measure => omega
        case rel => exact ⟨i + 1, by omega, HIH.out _, Lib.hid (HIB.out _), Lib.hid (HN.out.succ Hx.out HC2.out)⟩
    · have hnx := fun ty => run_next_any_at (P := Tryz.prog) wr K s i ty hki hi
      obtain ⟨d1, d2⟩ := decode_high s i hi (by rw [hx]; omega)
      have d3 := decode_le s i
      have HDC := Lib.hid (decode_cont s i)
      have hx0 := hx
      obtain ⟨r, hr⟩ : ∃ r, (Utf8.decode s i).1 = r := ⟨_, rfl⟩
      obtain ⟨d, hd⟩ : ∃ d, (Utf8.decode s i).2 = d := ⟨_, rfl⟩
      rw [hr] at hnx d1 d3
      rw [hd] at hnx d2 HDC
      have hNN : Lib.NoAny s.data.toList [33, 61] (i + d) := noany_run HN.out (fun k y hk hy => by
        rcases Nat.eq_zero_or_pos k with rfl | h1
        · rw [Nat.add_zero, Hx.out] at hy
          injection hy with hy
          subst hy
          exact high_none (by omega)
        · obtain ⟨hlt, h128⟩ := HDC.out k h1 hk
          have := Lib.data_getElem? s (i + k) hlt
          rw [hy] at this
          injection this with this
          rw [this]
          exact high_none h128)
      have hid : i + d ≤ s.size := by
        rcases Nat.lt_or_ge 1 d with h1 | h1
        · obtain ⟨hlt, -⟩ := HDC.out (d - 1) (by omega) (by omega)
          omega
        · omega
      have HN2 := Lib.hid hNN
      have HIR := Lib.hid (fun W => irune_high r W (by omega) (by omega))
      have HID := Lib.hid hid
      have HD2 := Lib.hid d2
      clear hx hx0 hr hd hNN hid d1 d2 d3 hki hx128
      go_wp2_with (go_at_call 82; refine (HIR.out _).mono ?_; rintro e w3 ⟨rfl, hb3⟩)
      have HW3 : Hid (w3.heap[K]? = some (.stringIter s (i + d)) ∧ Below w1.heap.size w1 w3) := Lib.hid ⟨(hb3.block K (by rw [iterAt_size]; exact hKl)).trans (HIH.out _), (HIB.out _).trans (hb3.mono (HIB.out _).size)⟩
      clear hb3
      go_wp2_with fail
      go_roundg (s.size - (i + d))
      case measure => have := HD2.out; omega
      case rel => exact ⟨i + d, (by have := HID.out; omega), HW3.out.1, Lib.hid HW3.out.2, HN2⟩
theorem zeroSet : ∀ w, (zeroValue 120).run Tryz.prog w = .ok (.agg (Array.replicate 256 (.bool false))) w := fun w => by kernel_rfl
theorem iny_any (l : By) (w : World) (hsz : l.length ≤ 1048576) : Calls Tryz.prog 71 #[.string (mkS l), .string ⟨#[33, 61]⟩] w fun e w' => e = .returned (.int .i64 (Lib.indexAny l [33, 61])) ∧ Below w.heap.size w w' := by
  have hd : (mkS l).data.toList = l := by unfold mkS; rw [List.toList_toArray]
  have hs : (mkS l).size = l.length := mkS_size l
  by_cases h8 : (mkS l).size ≤ 8
  · have := iny_short (mkS l) w h8
    rwa [hd] at this
  · refine (YtlfhcjhbnakamaaGreatDoor.strings_IndexAny_long zeroSet (mkS l) ⟨#[33, 61]⟩ w (by decide) (by omega) (by omega) (by decide) (fun j b hb => ?_)).mono ?_
    · match j, hb with
      | 0, hb => injection hb with hb; subst hb; decide
      | 1, hb => injection hb with hb; subst hb; decide
    · rintro e w' ⟨rfl, rfl⟩
      rw [hd]
      exact ⟨rfl, ((Below.refl _ _).alloc (Nat.le_refl _) _).alloc (by simp) _⟩
/-- Where the first sign stands. -/
theorem indexAny_op : ∀ l : By, Lib.indexAny l [33, 61] = if (l.takeWhile fun b => !opB b).length < l.length then ((l.takeWhile fun b => !opB b).length : Int) else -1
  | [] => rfl
  | b :: l => by
    have ih := indexAny_op l
    have hc : ([33, 61] : List UInt8).contains b = opB b := by
      unfold opB
      by_cases h1 : b = 33
      · subst h1; rfl
      · by_cases h2 : b = 61
        · subst h2; rfl
        · simp [h1, h2]
    rw [Lib.indexAny, hc]
    cases ho : opB b with
    | true => simp [List.takeWhile_cons, ho]
    | false =>
      rw [if_neg (by simp), ih]
      simp only [List.takeWhile_cons, ho, Bool.not_false, if_true, List.length_cons]
      generalize (l.takeWhile fun b => !opB b).length = T
      by_cases hl : T < l.length
      · have e : (((T : Int) == -1) : Bool) = false := by rw [beq_eq_false_iff_ne]; omega
        have h2 : T + 1 < l.length + 1 := by omega
        simp only [hl, h2, if_true, e, Bool.false_eq_true, if_false]
        omega
      · have h2 : ¬ T + 1 < l.length + 1 := by omega
        have e : (((-1 : Int) == -1) : Bool) = true := rfl
        simp only [hl, h2, if_false, e, if_true]
end Go.Proofs.YtlfhcjhbnakamaaGreatDoor.Iny
/-
  Labels: the walk of one (a match at the front of a text).
-/
namespace Go.Proofs.YtlfhcjhbnakamaaGreatDoor.Lab
open Go.RowKit Go.Gh
set_option linter.unusedVariables false
set_option linter.unusedSimpArgs false
theorem bx3_store {w : World} {B : Nat} {T : TypeId} {a b c : Value} (x y z : Value) (h : w.heap[B]? = some (.cells #[a, b, c] T (0, 0))) : (((w.setCell ⟨B, 0, none⟩ x).setCell ⟨B, 1, none⟩ y).setCell ⟨B, 2, none⟩ z).heap[B]? = some (.cells #[x, y, z] T (0, 0)) := by
  have := box_over (us := [x, y, z]) (cs := [a, b, c]) h rfl
  exact this
theorem bx3_below {w w' : World} {B : Nat} (x y z : Value) {A : Nat} (hA : A ≤ B) (h : Below A w w') : Below A w (((w'.setCell ⟨B, 0, none⟩ x).setCell ⟨B, 1, none⟩ y).setCell ⟨B, 2, none⟩ z) :=
  ((h.setCell (p := ⟨B, 0, none⟩) hA x).setCell (p := ⟨B, 1, none⟩) hA y).setCell (p := ⟨B, 2, none⟩) hA z
theorem mkS_data (l : By) : (mkS l).data.toList = l := by unfold mkS; rw [List.toList_toArray]
theorem sgn_some {k : Int} (h1 : 1 ≤ k) (h2 : k ≤ 4) {D r : By} (h : D = sgn k ++ 34 :: r) : sgnAt D = some (k, r) := by
  rw [h]
  exact (sgn_at h1 h2 r).1
theorem sgn_nil : ∀ (D : By), (∀ k : Nat, 1 ≤ k → k ≤ 4 → (sgn (k : Int) ++ [34]).isPrefixOf D = false) → sgnAt D = none := by
  intro D h
  unfold sgnAt
  split
  · rename_i r
    have := h 1 (by decide) (by decide)
    simp [sgn, List.isPrefixOf] at this
  · rename_i r
    have := h 2 (by decide) (by decide)
    simp [sgn, List.isPrefixOf] at this
  · rename_i r
    have := h 3 (by decide) (by decide)
    simp [sgn, List.isPrefixOf] at this
  · rename_i r
    have := h 4 (by decide) (by decide)
    simp [sgn, List.isPrefixOf] at this
  · rfl
theorem pre_some {p D : By} (h : p.isPrefixOf D = true) : D = p ++ D.drop p.length := by
  obtain ⟨t, rfl⟩ := List.isPrefixOf_iff_prefix.1 h
  rw [List.drop_left]
def OnP (w : World) (r : Option (Mt × By)) (e : Ending) (w' : World) : Prop := Below w.heap.size w w' ∧ match r with
  | none => ∃ k a b t, e = .returned (.tuple #[.agg #[.int .i64 k, .string a, .string b], .string t, .bool false])
  | some (m, t) => e = .returned (.tuple #[.agg #[.int .i64 m.kd, .string (mkS m.nm), .string (mkS m.vl)], .string (mkS t), .bool true])
theorem onP_none {w w' : World} {r : Option (Mt × By)} {e : Ending} {k : Int} {a b t : ByteArray} (hr : r = none) (hb : Below w.heap.size w w') (he : e = .returned (.tuple #[.agg #[.int .i64 k, .string a, .string b], .string t, .bool false])) : OnP w r e w' := by
  subst hr
  exact ⟨hb, k, a, b, t, he⟩
theorem onP_some {w w' : World} {r : Option (Mt × By)} {e : Ending} {m : Mt} {t : By} (hr : r = some (m, t)) (hb : Below w.heap.size w w') (he : e = .returned (.tuple #[.agg #[.int .i64 m.kd, .string (mkS m.nm), .string (mkS m.vl)], .string (mkS t), .bool true])) : OnP w r e w' := by
  subst hr
  exact ⟨hb, he⟩
theorem tw_parts (l : By) (f : UInt8 → Bool) : l.take (l.takeWhile f).length = l.takeWhile f ∧ l.drop (l.takeWhile f).length = l.dropWhile f := by
  have h := List.takeWhile_append_dropWhile (p := f) (l := l)
  generalize l.takeWhile f = a at h ⊢
  generalize l.dropWhile f = b at h ⊢
  rw [← h]
  constructor
  · rw [List.take_left]
  · rw [List.drop_left]
theorem one_none1 {l : By} (h : ¬ (l.takeWhile fun b => !opB b).length < l.length) : oneP l = none := by
  have h2 := (tw_parts l fun b => !opB b).2
  rw [List.drop_of_length_le (by omega)] at h2
  unfold oneP
  rw [← h2]
  rfl
theorem one_none2 {l : By} (h : ∀ k : Nat, 1 ≤ k → k ≤ 4 → (sgn (k : Int) ++ [34]).isPrefixOf (l.dropWhile fun b => !opB b) = false) : oneP l = none := by
  unfold oneP
  rw [sgn_nil _ h]
theorem one_at {l r : By} {k : Nat} (h1 : 1 ≤ k) (h2 : k ≤ 4) (h : (l.dropWhile fun b => !opB b) = sgn (k : Int) ++ 34 :: r) : oneP l = match unq r [] with | none => none | some (v, r') => some (⟨k, l.takeWhile fun b => !opB b, v⟩, r') := by
  unfold oneP
  rw [sgn_some (by omega) (by omega) h]
  rfl
set_option maxHeartbeats 8000000 in
set_option maxRecDepth 100000 in
theorem one_any (l : By) (w : World) (hsz : l.length ≤ 1048576) (hT : STab w) : Calls Tryz.prog 57 #[.string (mkS l)] w (OnP w (oneP l)) := by
  have hml := mkS_size l
  obtain ⟨P, hP⟩ : ∃ P, (l.takeWhile fun b => !opB b).length = P := ⟨_, rfl⟩
  have hPl : P ≤ l.length := by rw [← hP]; exact (List.takeWhile_prefix _).length_le
  have HIA := Lib.hid (fun W => Iny.iny_any l W hsz)
  rw [Iny.indexAny_op, hP] at HIA
  obtain ⟨R, hR⟩ : ∃ R, oneP l = R := ⟨_, rfl⟩
  rw [hR]
  have HR := Lib.hid hR
  have HPN := Lib.hid hP
  have HX := Lib.hid (mkS_ext l)
  have HML := Lib.hid hml
  clear hR hP
  obtain ⟨S, hS⟩ : ∃ S, mkS l = S := ⟨_, rfl⟩
  rw [hS] at HIA HX HML hml ⊢
  obtain ⟨n, hn⟩ : ∃ n, S.size = n := ⟨_, rfl⟩
  rw [hn] at hml
  have HT := Lib.hid hT
  have HL := Lib.hid hml.symm
  have HS := Lib.hid hS
  clear hS hT
  obtain ⟨wa, hwa⟩ : ∃ wa, wa = w.alloc (Obj.cells #[.int .i64 0, .string ⟨#[]⟩, .string ⟨#[]⟩] 70) := ⟨_, rfl⟩
  have hbox : wa.heap[w.heap.size]? = some (.cells #[.int .i64 0, .string ⟨#[]⟩, .string ⟨#[]⟩] 70 (0, 0)) := by rw [hwa]; exact heap_alloc_new w _
  have hba : Below w.heap.size w wa := by rw [hwa]; exact (Below.refl _ _).alloc (Nat.le_refl _) _
  have hsa : w.heap.size < wa.heap.size := by rw [hwa]; simp
  have HBA := Lib.hid hba
  have HWA := Lib.hid hwa
  clear hba
  by_cases hPn : P < l.length
  case neg =>
    rw [if_neg hPn] at HIA
    have HN : Hid (R = none) := Lib.hid (by rw [← HR.out]; exact one_none1 (by rw [HPN.out]; exact hPn))
    clear hPn hPl hml hwa
    go_enter Tryz.func57, Tryz.ntmps57
    go_upto_region 1 with (fail)
    rw [← HWA.out]
    have HC := Lib.hid (HIA.out wa)
    obtain ⟨bx, hbx⟩ : ∃ bx, w.heap.size = bx := ⟨_, rfl⟩
    rw [hbx] at hbox hsa ⊢
    have HBX := Lib.hid hbx
    clear hbx
    go_wp2_with (go_at_call 71; refine HC.out.mono ?_; rintro e w1 ⟨rfl, hb1⟩; have hbox1 := (hb1.block bx hsa).trans hbox; have HB1 := Lib.hid hb1; clear hb1 hbox; obtain ⟨⟨d0, d1, d2⟩, ⟨f0, f1, f2⟩⟩ := bx3 hbox1)
    have hst := bx3_store (.int .i64 0) (.string ⟨#[]⟩) (.string ⟨#[]⟩) hbox1
    obtain ⟨⟨s0, s1, s2⟩, -⟩ := bx3 hst
    refine bodyPost_ret (v := .tuple #[.agg #[.int .i64 0, .string ⟨#[]⟩, .string ⟨#[]⟩], .string ⟨#[]⟩, .bool false]) (by simp [results, Tryz.results57, go_sem, s0, s1, s2]) rfl ?_
    exact onP_none HN.out (bx3_below _ _ _ (Nat.le_of_eq HBX.out) (HBA.out.trans (HB1.out.mono HBA.out.size))) rfl
  rw [if_pos hPn] at HIA
  have hPi : (P : Int) ≤ (n : Int) := by omega
  obtain ⟨tw1, tw2⟩ := tw_parts l fun b => !opB b
  rw [HPN.out] at tw1 tw2
  obtain ⟨Nm, hNm⟩ : ∃ Nm, (l.takeWhile fun b => !opB b) = Nm := ⟨_, rfl⟩
  obtain ⟨D, hD⟩ : ∃ D, (l.dropWhile fun b => !opB b) = D := ⟨_, rfl⟩
  rw [hNm] at tw1
  rw [hD] at tw2
  have hex1 : S.extract 0 P = mkS Nm := by rw [HX.out, Nat.sub_zero, List.drop_zero, tw1]
  have hex2 : S.extract P n = mkS D := by rw [← HL.out, HX.out, List.take_of_length_le (by rw [List.length_drop]; exact Nat.le_refl _), tw2]
  have HDL : Hid (D.length ≤ 1048576) := Lib.hid (by rw [← tw2, List.length_drop]; omega)
  have HNM := Lib.hid hNm
  have HD := Lib.hid hD
  clear hPn hPl hml hwa tw1 tw2 hNm hD
  obtain ⟨NmS, hNmS⟩ : ∃ z, mkS Nm = z := ⟨_, rfl⟩
  obtain ⟨DS, hDS⟩ : ∃ z, mkS D = z := ⟨_, rfl⟩
  rw [hNmS] at hex1
  rw [hDS] at hex2
  have HNS := Lib.hid hNmS
  have HDS := Lib.hid hDS
  clear hNmS hDS
  go_enter Tryz.func57, Tryz.ntmps57
  go_upto_region 1 with (fail)
  rw [← HWA.out]
  have HC := Lib.hid (HIA.out wa)
  obtain ⟨bx, hbx⟩ : ∃ bx, w.heap.size = bx := ⟨_, rfl⟩
  rw [hbx] at hbox hsa ⊢
  have HBX := Lib.hid hbx
  clear hbx
  go_wp2_with (go_at_call 71; refine HC.out.mono ?_; rintro e w1 ⟨rfl, hb1⟩; have hbox1 := (hb1.block bx hsa).trans hbox; have HB1 := Lib.hid hb1; clear hb1 hbox; obtain ⟨⟨d0, d1, d2⟩, ⟨f0, f1, f2⟩⟩ := bx3 hbox1)
  go_region
  obtain ⟨W2, hW2⟩ : ∃ W2, W2 = (w1.setCell ⟨bx, 1, none⟩ (.string NmS)).drew := ⟨_, rfl⟩
  rw [← hW2]
  have hbox2 : W2.heap[bx]? = some (.cells #[.int .i64 0, .string NmS, .string ⟨#[]⟩] 70 (0, 0)) := by rw [hW2]; exact row_setCell 1 _ hbox1
  have hbw2 : Below w.heap.size w W2 := by rw [hW2]; exact ((HBA.out.trans (HB1.out.mono HBA.out.size)).setCell (p := ⟨bx, 1, none⟩) (Nat.le_of_eq HBX.out) _).drew
  have HB2 := Lib.hid hbw2
  have hlt2 : bx < W2.heap.size := (Array.getElem?_eq_some_iff.1 hbox2).1
  have HT2 := Lib.hid (HT.out.below hbw2)
  have HBO2 := Lib.hid hbox2
  clear hW2 hbox1 d0 d1 d2 f0 f1 f2 hbw2
  obtain ⟨⟨d0, d1, d2⟩, ⟨f0, f1, f2⟩⟩ := bx3 hbox2
  clear hbox2
  go_wp2_with fail
  go_loopw [6] (fun kd wr => ∃ j : Nat, j ≤ 4 ∧ kd = .int .i64 j ∧ wr = W2 ∧ Hid (∀ k : Nat, j < k → k ≤ 4 → (sgn (k : Int) ++ [34]).isPrefixOf D = false)) (fun kd _ => (intOf kd).toNat)
  case atStart => exact ⟨4, by omega, rfl, rfl, Lib.hid (fun k h1 h2 => by omega)⟩
  case round =>
    obtain ⟨j, hj, rfl, hwe, HP⟩ := hrel
    have hwe := hwe.symm
    subst hwe
    rcases Nat.eq_zero_or_pos j with h0 | hpos
    · subst h0
      have HN : Hid (R = none) := Lib.hid (by
        rw [← HR.out]
        refine one_none2 fun k h1 h2 => ?_
        rw [HD.out]
        exact HP.out k h1 h2)
      go_wp2_with fail
      have hst := bx3_store (.int .i64 0) (.string NmS) (.string ⟨#[]⟩) HBO2.out
      obtain ⟨⟨s0, s1, s2⟩, -⟩ := bx3 hst
      refine bodyPost_ret (v := .tuple #[.agg #[.int .i64 0, .string NmS, .string ⟨#[]⟩], .string ⟨#[]⟩, .bool false]) (by simp [results, Tryz.results57, go_sem, s0, s1, s2]) rfl ?_
      exact onP_none HN.out (bx3_below _ _ _ (Nat.le_of_eq HBX.out) HB2.out) rfl
    have hj1 : (1 : Int) ≤ (j : Int) := by omega
    have hj5 : (j : Int) < 5 := by omega
    have hjn : 1 ≤ j := hpos
    have hg := HT2.out j (by omega)
    obtain ⟨Sg, hSg⟩ : ∃ z, mkS (sgn (j : Int)) = z := ⟨_, rfl⟩
    rw [hSg] at hg
    obtain ⟨zn, hzn⟩ : ∃ z, Sg.size = z := ⟨_, rfl⟩
    have hz2 : zn ≤ 2 := by rw [← hzn, ← hSg, mkS_size]; exact sgn_le _
    have hcat : Sg ++ ⟨#[34]⟩ = mkS (sgn (j : Int) ++ [34]) := by rw [← hSg]; exact mkS_app _ [34]
    have HHP := Lib.hid (fun W => YtlfhcjhbnakamaaGreatDoor.strings_HasPrefix DS (Sg ++ ⟨#[34]⟩) W)
    have hhp : Lib.hasPrefix DS.data.toList (Sg ++ ⟨#[34]⟩).data.toList = (sgn (j : Int) ++ [34]).isPrefixOf D := by
      rw [hcat, ← HDS.out, mkS_data, mkS_data]
      rfl
    rw [hhp] at HHP
    obtain ⟨C, hC⟩ : ∃ C, (sgn (j : Int) ++ [34]).isPrefixOf D = C := ⟨_, rfl⟩
    rw [hC] at HHP
    have HC2 := Lib.hid hC
    have HSG := Lib.hid hSg
    have hs1 : zn + 1 ≤ 9223372036854775807 := by omega
    clear hcat hhp hC hSg hpos
    cases C with
    | false =>
      have HP2 : Hid (∀ k : Nat, j - 1 < k → k ≤ 4 → (sgn (k : Int) ++ [34]).isPrefixOf D = false) := Lib.hid (fun k h1 h2 => by
        rcases Nat.lt_or_ge j k with h | h
        · exact HP.out k h h2
        · obtain rfl : k = j := by omega
          exact HC2.out)
      go_wp2_with (go_at_call 68; refine (HHP.out _).mono ?_; rintro e w3 ⟨rfl, rfl⟩)
      go_roundw
      case rel => exact ⟨j - 1, by omega, (by congr 1; omega), by trivial, HP2⟩
      case measure => simp [intOf]; omega
    | true =>
      have hdec := pre_some HC2.out
      obtain ⟨r, hr⟩ : ∃ r, D.drop (sgn (j : Int) ++ [34]).length = r := ⟨_, rfl⟩
      rw [hr] at hdec
      have hzl : (sgn (j : Int) ++ [34]).length = zn + 1 := by rw [List.length_append, ← hzn, ← HSG.out, mkS_size]; rfl
      rw [hzl] at hr
      have hone := one_at (l := l) (r := r) hjn hj (by rw [HD.out, hdec, List.append_assoc]; rfl)
      rw [HR.out, HNM.out] at hone
      obtain ⟨dn, hdn⟩ : ∃ z, DS.size = z := ⟨_, rfl⟩
      have hdl : dn = D.length := by rw [← hdn, ← HDS.out, mkS_size]
      have hex3 : DS.extract (zn + 1) dn = mkS r := by rw [← HDS.out, mkS_ext, hdl, List.take_of_length_le (by rw [List.length_drop]; exact Nat.le_refl _), hr]
      have hle : (zn : Int) + 1 ≤ (dn : Int) := by
        have := congrArg List.length hdec
        rw [List.length_append, hzl] at this
        omega
      have HUQ := Lib.hid (fun W => unq_any r W (by
        have := HDL.out
        rw [← hr, List.length_drop]
        omega))
      have HON := Lib.hid hone
      clear hdec hzl hone hdl hr
      obtain ⟨U, hU⟩ : ∃ U, unq r [] = U := ⟨_, rfl⟩
      rw [hU] at HUQ HON
      clear hU
      generalize mkS r = RS at *
      obtain ⟨W3, hW3⟩ : ∃ W3, W3 = W2.setCell ⟨bx, 0, none⟩ (.int .i64 j) := ⟨_, rfl⟩
      have hbox3 : W3.heap[bx]? = some (.cells #[.int .i64 j, .string NmS, .string ⟨#[]⟩] 70 (0, 0)) := by rw [hW3]; exact row_setCell 0 _ HBO2.out
      have hbw3 : Below w.heap.size w W3 := by rw [hW3]; exact HB2.out.setCell (p := ⟨bx, 0, none⟩) (Nat.le_of_eq HBX.out) _
      have hlt3 : bx < W3.heap.size := (Array.getElem?_eq_some_iff.1 hbox3).1
      have HB3 := Lib.hid hbw3
      have hg3 := (HT.out.below hbw3) j (by omega)
      rw [HSG.out] at hg3
      have HW3 := Lib.hid hW3
      have HG3 := Lib.hid hg3
      clear hW3 hbw3 hg3
      go_upto_region 10 with (go_at_call 68; refine (HHP.out _).mono ?_; rintro e w3 ⟨rfl, rfl⟩)
      rw [← HW3.out]
      have hg := HG3.out
      have hq2 := HUQ.out W3
      obtain ⟨⟨d0, d1, d2⟩, ⟨f0, f1, f2⟩⟩ := bx3 hbox3
      cases U with
      | none =>
        have HU : Hid (Calls Tryz.prog 72 #[.string RS] W3 fun e w' => e = .returned (.tuple #[.string ⟨#[]⟩, .string ⟨#[]⟩, .bool false]) ∧ Below W3.heap.size W3 w') := Lib.hid hq2
        clear hq2
        go_wp2_with (go_at_call 72; refine HU.out.mono ?_; rintro e w4 ⟨rfl, hb4⟩; have hbox4 := (hb4.block bx hlt3).trans hbox3; have HB4 := Lib.hid (HB3.out.trans (hb4.mono HB3.out.size)); clear hb4; obtain ⟨⟨p0, p1, p2⟩, ⟨q0, q1, q2⟩⟩ := bx3 hbox4)
        trace_state
        have hst := bx3_store (.int .i64 j) (.string NmS) (.string ⟨#[]⟩) (row_setCell 2 (.string ⟨#[]⟩) hbox4)
        obtain ⟨⟨s0, s1, s2⟩, -⟩ := bx3 hst
        refine bodyPost_ret (v := .tuple #[.agg #[.int .i64 j, .string NmS, .string ⟨#[]⟩], .string ⟨#[]⟩, .bool false]) (by simp [results, Tryz.results57, go_sem, s0, s1, s2]) rfl ?_
        exact onP_none HON.out (bx3_below _ _ _ (Nat.le_of_eq HBX.out) (HB4.out.setCell (p := ⟨bx, 2, none⟩) (Nat.le_of_eq HBX.out) _)) rfl
      | some vr =>
        obtain ⟨v, t⟩ := vr
        have HU : Hid (Calls Tryz.prog 72 #[.string RS] W3 fun e w' => e = .returned (.tuple #[.string (mkS v), .string (mkS t), .bool true]) ∧ Below W3.heap.size W3 w') := Lib.hid hq2
        clear hq2
        have HV := Lib.hid (rfl : mkS v = mkS v)
        go_wp2_with (go_at_call 72; refine HU.out.mono ?_; rintro e w4 ⟨rfl, hb4⟩; have hbox4 := (hb4.block bx hlt3).trans hbox3; have HB4 := Lib.hid (HB3.out.trans (hb4.mono HB3.out.size)); clear hb4; obtain ⟨⟨p0, p1, p2⟩, ⟨q0, q1, q2⟩⟩ := bx3 hbox4)
        have hst := bx3_store (.int .i64 j) (.string NmS) (.string (mkS v)) (row_setCell 2 (.string (mkS v)) hbox4)
        obtain ⟨⟨s0, s1, s2⟩, -⟩ := bx3 hst
        refine bodyPost_ret (v := .tuple #[.agg #[.int .i64 j, .string NmS, .string (mkS v)], .string (mkS t), .bool true]) (by simp [results, Tryz.results57, go_sem, s0, s1, s2]) rfl ?_
        refine onP_some HON.out (bx3_below _ _ _ (Nat.le_of_eq HBX.out) (HB4.out.setCell (p := ⟨bx, 2, none⟩) (Nat.le_of_eq HBX.out) _)) ?_
        rw [HNS.out]
end Go.Proofs.YtlfhcjhbnakamaaGreatDoor.Lab
/-
  Labels: the walk of ReadMatch.
-/
namespace Go.Proofs.YtlfhcjhbnakamaaGreatDoor.Lab
open Go.RowKit Go.Gh
set_option linter.unusedVariables false
set_option linter.unusedSimpArgs false
theorem unq_len : ∀ (l acc v r : By), unq l acc = some (v, r) → r.length + 1 ≤ l.length
  | [], acc, v, r, h => by simp [unq] at h
  | b :: l, acc, v, r, h => by
    rw [unq_cons] at h
    split at h
    · injection h with h
      injection h with h1 h2
      rw [← h2]
      simp
    · split at h
      · cases l with
        | nil => simp at h
        | cons c l =>
          have := unq_len l _ v r h
          simp only [List.length_cons]
          omega
      · have := unq_len l _ v r h
        simp only [List.length_cons]
        omega
theorem sgn_len {D r : By} {k : Int} (h : sgnAt D = some (k, r)) : r.length + 2 ≤ D.length := by
  unfold sgnAt at h
  split at h <;> first | (injection h with h; injection h with h1 h2; subst h2; simp only [List.length_cons]; omega) | simp at h
theorem one_len {l b : By} {m : Mt} (h : oneP l = some (m, b)) : b.length + 3 ≤ l.length := by
  unfold oneP at h
  split at h
  · simp at h
  · rename_i k r hs
    split at h
    · simp at h
    · rename_i v r' hu
      injection h with h
      injection h with h1 h2
      subst h2
      have e1 := unq_len _ _ _ _ hu
      have e2 := sgn_len hs
      have e3 := (List.dropWhile_suffix (fun b => !opB b) (l := l)).length_le
      omega
theorem trim_len (b : By) : (trimC b).length ≤ b.length := by
  unfold trimC
  split
  · simp
  · exact Nat.le_refl _
theorem trim_lib (b : By) : Lib.trimPrefix b [44] = trimC b := by
  unfold Lib.trimPrefix Lib.hasPrefix trimC
  match b with
  | [] => rfl
  | c :: r =>
    by_cases h : c = 44
    · subst h; rfl
    · have h2 : ([44] : By).isPrefixOf (c :: r) = false := by simp [List.isPrefixOf, Ne.symm h]
      rw [h2, if_neg (by simp)]
      split
      · rename_i r' e
        injection e with e1 e2
        exact absurd e1 h
      · rfl
theorem unq_vlen : ∀ (l acc v r : By), unq l acc = some (v, r) → v.length ≤ acc.length + l.length
  | [], acc, v, r, h => by simp [unq] at h
  | b :: l, acc, v, r, h => by
    rw [unq_cons] at h
    split at h
    · injection h with h
      injection h with h1 h2
      rw [← h1]
      omega
    · split at h
      · cases l with
        | nil => simp at h
        | cons c l =>
          have := unq_vlen l _ v r h
          simp only [List.length_cons, List.length_append, List.length_nil] at this ⊢
          omega
      · have := unq_vlen l _ v r h
        simp only [List.length_cons, List.length_append, List.length_nil] at this ⊢
        omega
theorem sgn_kd {D r : By} {k : Int} (h : sgnAt D = some (k, r)) : 1 ≤ k ∧ k ≤ 4 := by
  unfold sgnAt at h
  split at h <;> first | (injection h with h; injection h with h1 h2; subst h1; decide) | simp at h
theorem one_sizes {l b : By} {m : Mt} (h : oneP l = some (m, b)) (hl : l.length ≤ 1048576) : m.nm.length ≤ 140737488355328 ∧ m.vl.length ≤ 140737488355328 ∧ 1 ≤ m.kd ∧ m.kd ≤ 4 := by
  unfold oneP at h
  split at h
  · simp at h
  · rename_i k r hs
    split at h
    · simp at h
    · rename_i v r' hu
      injection h with h
      injection h with h1 h2
      subst h1
      have e1 := unq_vlen _ _ _ _ hu
      have e2 := sgn_len hs
      have e3 := (List.dropWhile_suffix (fun b => !opB b) (l := l)).length_le
      have e4 := (List.takeWhile_prefix (fun b => !opB b) (l := l)).length_le
      obtain ⟨k1, k2⟩ := sgn_kd hs
      simp only [List.length_nil] at e1
      exact ⟨by show (l.takeWhile _).length ≤ _; omega, by show v.length ≤ _; omega, k1, k2⟩
/-- The matches, or the fault. -/
def RmP (w : World) (r : Option (List Mt)) (e : Ending) (w' : World) : Prop := Below w.heap.size w w' ∧ match r with
  | none => e = .returned (.tuple #[.slice none 0 0, .int .i64 4])
  | some ms => ∃ v, e = .returned (.tuple #[v, .int .i64 0]) ∧ Ow MtR 3 70 w.heap.size w' v ms
theorem rmP_none {w w' : World} {r : Option (List Mt)} {e : Ending} (hr : r = none) (hb : Below w.heap.size w w') (he : e = .returned (.tuple #[.slice none 0 0, .int .i64 4])) : RmP w r e w' := by
  subst hr
  exact ⟨hb, he⟩
theorem rmP_some {w w' : World} {r : Option (List Mt)} {e : Ending} {ms : List Mt} {v : Value} (hr : r = some ms) (hb : Below w.heap.size w w') (he : e = .returned (.tuple #[v, .int .i64 0])) (ho : Ow MtR 3 70 w.heap.size w' v ms) : RmP w r e w' := by
  subst hr
  exact ⟨hb, v, he, ho⟩
set_option maxHeartbeats 8000000 in
set_option maxRecDepth 100000 in
theorem rm_any (l : By) (w : World) (hsz : l.length ≤ 1048576) (hT : STab w) : Calls Tryz.prog 26 #[.string (mkS l)] w (RmP w (rmF l)) := by
  have HCP := Lib.hid (fun W => YtlfhcjhbnakamaaGreatDoor.strings_CutPrefix (mkS l) ⟨#[123]⟩ W)
  rw [mkS_data] at HCP
  have ep : (⟨#[123]⟩ : ByteArray).data.toList = [123] := rfl
  rw [ep] at HCP
  clear ep
  obtain ⟨R, hR⟩ : ∃ R, rmF l = R := ⟨_, rfl⟩
  rw [hR]
  have HR := Lib.hid hR
  clear hR
  by_cases h0 : ∃ t, l = 123 :: t
  case neg =>
    have h1 : Lib.hasPrefix l [123] = false := by
      unfold Lib.hasPrefix
      match l, h0 with
      | [], _ => rfl
      | c :: r, h0 =>
        have : c ≠ 123 := fun e => h0 ⟨r, by rw [e]⟩
        simp [List.isPrefixOf, Ne.symm this]
    have HN : Hid (R = none) := Lib.hid (by rw [← HR.out]; exact rm_none (fun t e => h0 ⟨t, e⟩))
    rw [h1] at HCP
    generalize Lib.trimPrefix l [123] = z at HCP
    generalize mkS l = S at HCP ⊢
    clear h0 h1
    go_enter Tryz.func26, Tryz.ntmps26
    go_wp2_with (go_at_call 56; refine (HCP.out _).mono ?_; rintro e w1 ⟨rfl, rfl⟩)
    go_ret2
    exact rmP_none HN.out (Below.refl _ _) rfl
  obtain ⟨t, rfl⟩ := h0
  have h1 : Lib.hasPrefix (123 :: t) [123] = true := rfl
  have h2 : Lib.trimPrefix (123 :: t) [123] = t := rfl
  rw [h1, h2] at HCP
  have htl : t.length + 1 ≤ 1048576 := by simpa using hsz
  have HCP2 : Hid (∀ W, Calls Tryz.prog 56 #[.string (mkS (123 :: t)), .string ⟨#[123]⟩] W fun e w' => e = .returned (.tuple #[.string (mkS t), .bool true]) ∧ w' = W) := Lib.hid HCP.out
  have HT := Lib.hid hT
  clear h1 h2 hsz HCP hT
  obtain ⟨S, hS⟩ : ∃ z, mkS (123 :: t) = z := ⟨_, rfl⟩
  rw [hS] at HCP2 ⊢
  have HS := Lib.hid hS
  clear hS
  obtain ⟨n, hn⟩ : ∃ n, t.length = n := ⟨_, rfl⟩
  rw [hn] at htl
  have HN := Lib.hid hn
  clear hn
  go_enter Tryz.func26, Tryz.ntmps26
  go_wp2_with (go_at_call 56; refine (HCP2.out _).mono ?_; rintro e w1 ⟨rfl, rfl⟩)
  go_wp2_with fail
  go_loopg [4, 6] n (fun g r o wr => ∃ (u : By) (O : List Mt) (q : Nat), Hid (u.length = g) ∧ Hid (O.length = q) ∧ 3 * q + g ≤ n ∧ r = .string (mkS u) ∧ Hid (Ow MtR 3 70 w1.heap.size wr o O) ∧ Hid (∀ res, RdR u O res → RdR t [] res) ∧ Below w1.heap.size w1 wr)
  case atStart => exact ⟨t, [], 0, HN, Lib.hid rfl, by omega, rfl, Lib.hid Ow.nil, Lib.hid (fun _ h => h), Below.refl _ _⟩
  case round =>
    obtain ⟨u, O, q, HU, HQ, hq, rfl, HO, HC, hbel⟩ := hrel
    obtain ⟨uo, uc, rfl, hu1, hu2⟩ := Sp.shapeN HO.out.sp HQ.out
    have hus : (mkS u).size = u.length := mkS_size u
    have hul := mkS_list u
    have hws := hbel.size
    have HU2 := Lib.hid (mkS_list u)
    by_cases hd : u = [] ∨ u = [125]
    · have HCR := Lib.hid (HC.out _ (RdR.done u O hd))
      have HD := Lib.hid hd
      clear hd
      go_upto_region 5 with (fail)
      go_cut [24] (fun t wx => t = .bool false ∧ wx = wr)
      case first =>
        rcases HD.out with rfl | rfl
        · have e0 : mkS ([] : By) = ⟨#[]⟩ := rfl
          simp only [e0] at *
          go_wp2_with fail
          go_meet
          case rel => exact ⟨rfl, rfl⟩
        · have e0 : mkS ([125] : By) = ⟨#[125]⟩ := rfl
          simp only [e0] at *
          go_wp2_with fail
          go_meet
          case rel => exact ⟨by simp, rfl⟩
      case rest =>
        obtain ⟨rfl, hwc⟩ := hcut
        have hwc := hwc.symm
        subst hwc
        have HMT := Lib.hid (mtt_any _ O wr HO.out.sp (HT.out.below hbel))
        have hrp := rm_prog rfl HCR.out
        rw [HR.out] at hrp
        have HRP := Lib.hid hrp
        obtain ⟨E, hE⟩ : ∃ E, matchF O = E := ⟨_, rfl⟩
        rw [hE] at HMT
        have HE := Lib.hid hE
        clear hrp hE
        by_cases hz : E = 0
        case neg =>
          have HN2 : Hid (R = none) := Lib.hid (by
            rcases HRP.out with ⟨ms, e1, e2, -⟩ | ⟨-, h⟩
            · injection e1 with e1
              rw [← e1, HE.out] at e2
              exact absurd e2 hz
            · exact h)
          have t1 : (E != 0) = true := by rw [bne_iff_ne]; exact hz
          have HMT2 : Hid (Calls Tryz.prog 25 #[.slice uo q uc] wr fun e w' => e = .returned (.tuple #[.string ⟨#[]⟩, .int .i64 E]) ∧ Below wr.heap.size wr w') := Lib.hid (by
            have h := HMT.out
            unfold txP at h
            rw [if_neg hz] at h
            exact h)
          clear hz HMT
          go_wp2_with (go_at_call 25; refine HMT2.out.mono ?_; rintro e w5 ⟨rfl, hb5⟩; have HB5 := Lib.hid (hbel.trans (hb5.mono hbel.size)); clear hb5)
          go_ret2
          exact rmP_none HN2.out HB5.out rfl
        subst hz
        obtain ⟨X, hX⟩ : ∃ X, mkS (textM O) = X := ⟨_, rfl⟩
        have HMT2 : Hid (Calls Tryz.prog 25 #[.slice uo q uc] wr fun e w' => e = .returned (.tuple #[.string X, .int .i64 0]) ∧ Below wr.heap.size wr w') := Lib.hid (by
          have h := HMT.out
          unfold txP at h
          rw [if_pos rfl, hX] at h
          exact h)
        have hxs : (X.toList == S.toList) = decide (textM O = 123 :: t) := by
          rw [← hX, ← HS.out, mkS_list, mkS_list, Bool.eq_iff_iff]
          simp
        by_cases hts : textM O = 123 :: t
        · rw [decide_eq_true hts] at hxs
          have HN2 : Hid (R = some O) := Lib.hid (by
            rcases HRP.out with ⟨ms, e1, e2, e3, e4⟩ | ⟨h, -⟩
            · injection e1 with e1
              rw [e1]; exact e4
            · exact absurd ⟨HE.out, hts⟩ (h O rfl))
          clear hts HMT hX
          go_wp2_with (go_at_call 25; refine HMT2.out.mono ?_; rintro e w5 ⟨rfl, hb5⟩; have HB5 := Lib.hid hb5; clear hb5)
          go_ret2
          exact rmP_some HN2.out (hbel.trans (HB5.out.mono hbel.size)) rfl (HO.out.below mtR_mono HB5.out)
        · rw [decide_eq_false hts] at hxs
          have HN2 : Hid (R = none) := Lib.hid (by
            rcases HRP.out with ⟨ms, e1, e2, e3, e4⟩ | ⟨-, h⟩
            · injection e1 with e1
              rw [← e1] at e3
              exact absurd e3 hts
            · exact h)
          clear hts HMT hX
          go_wp2_with (go_at_call 25; refine HMT2.out.mono ?_; rintro e w5 ⟨rfl, hb5⟩; have HB5 := Lib.hid hb5; clear hb5)
          go_ret2
          exact rmP_none HN2.out (hbel.trans (HB5.out.mono hbel.size)) rfl
    have hd1 : u ≠ [] := fun e => hd (Or.inl e)
    have hd2 : u ≠ [125] := fun e => hd (Or.inr e)
    obtain ⟨f1, f2⟩ := tl_ne hd1
    have f3 : ((mkS u).toList == [125]) = false := by rw [mkS_list]; exact beq_eq_false_iff_ne.2 hd2
    have hub : u.length ≤ 1048576 := by rw [HU.out]; omega
    have HON := Lib.hid (one_any u wr hub (HT.out.below hbel))
    obtain ⟨X, hX⟩ : ∃ X, oneP u = X := ⟨_, rfl⟩
    rw [hX] at HON
    cases X with
    | none =>
      have HN2 : Hid (R = none) := Lib.hid (by
        rcases rm_prog rfl (HC.out _ (RdR.bad u O hd hX)) with ⟨ms, e1, -⟩ | ⟨-, h⟩
        · simp at e1
        · rw [← HR.out]; exact h)
      clear hX hd hd1 hd2 hub hul
      go_wp2_with (go_at_call 57; refine HON.out.mono ?_; rintro e w5 ⟨hb5, k5, a5, b5, t5, rfl⟩; have HB5 := Lib.hid (hbel.trans (hb5.mono hbel.size)); clear hb5)
      go_ret2
      refine rmP_none HN2.out ?_ rfl
      exact HB5.out.alloc HB5.out.size _
    | some mb =>
      obtain ⟨m, b⟩ := mb
      have HC2 : Hid (∀ res, RdR (trimC b) (O ++ [m]) res → RdR t [] res) := Lib.hid (fun res h => HC.out res (RdR.more u O m b res hd hX h))
      obtain ⟨z1, z2, z3, z4⟩ := one_sizes hX hub
      have hln := one_len hX
      have htr := trim_len b
      have HMR : Hid (MtR wr m [.int .i64 m.kd, .string (mkS m.nm), .string (mkS m.vl)]) := Lib.hid ⟨rfl, z1, z2, by omega, by omega⟩
      have HTP := Lib.hid (fun W => YtlfhcjhbnakamaaGreatDoor.strings_TrimPrefix (mkS b) ⟨#[44]⟩ W)
      rw [mkS_data] at HTP
      have HTP2 : Hid (∀ W, Calls Tryz.prog 58 #[.string (mkS b), .string ⟨#[44]⟩] W fun e w' => e = .returned (.string (mkS (trimC b))) ∧ w' = W) := Lib.hid (fun W => by
        have h := HTP.out W
        have ep : (⟨#[44]⟩ : ByteArray).data.toList = [44] := rfl
        rw [ep, trim_lib] at h
        exact h)
      have HLN : Hid ((trimC b).length + 3 ≤ gk) := Lib.hid (by rw [← HU.out]; omega)
      have HQ2 : Hid ((O ++ [m]).length = q + 1) := Lib.hid (by rw [List.length_append, HQ.out]; rfl)
      have HON2 : Hid (Calls Tryz.prog 57 #[.string (mkS u)] wr fun e w' => Below wr.heap.size wr w' ∧ e = .returned (.tuple #[.agg #[.int .i64 m.kd, .string (mkS m.nm), .string (mkS m.vl)], .string (mkS b), .bool true])) := Lib.hid HON.out
      obtain ⟨P, hP1, hP2, hP3, hP4⟩ := HO.out
      rw [HQ.out] at hP4
      have HPP := Lib.hid (And.intro hP1 (And.intro hP2 hP3))
      have HOW := Lib.hid hP4
      have hq47 : 3 * q ≤ n := by omega
      clear hX hd hd1 hd2 hub hul z1 z2 z3 z4 hln htr HTP hP1 hP2 hP3 hP4 HON
      obtain ⟨κ, hκ⟩ : ∃ z, m.kd = z := ⟨_, rfl⟩
      obtain ⟨Sn, hSn⟩ : ∃ z, mkS m.nm = z := ⟨_, rfl⟩
      obtain ⟨V, hV⟩ : ∃ z, mkS m.vl = z := ⟨_, rfl⟩
      rw [hκ, hSn, hV] at HON2 HMR
      clear hκ hSn hV
      go_upto_region 7 with (go_at_call 57; refine HON2.out.mono ?_; rintro e w5 ⟨hb5, rfl⟩; have HB5 := Lib.hid hb5; clear hb5)
      obtain ⟨wA, hwA⟩ : ∃ wA, wA = w5.alloc (Obj.cells #[.int .i64 κ, .string Sn, .string V] 70) := ⟨_, rfl⟩
      have hbox : wA.heap[w5.heap.size]? = some (.cells #[.int .i64 κ, .string Sn, .string V] 70 (0, 0)) := by rw [hwA]; exact heap_alloc_new w5 _
      have hbA : Below wr.heap.size wr wA := by rw [hwA]; exact HB5.out.alloc HB5.out.size _
      rw [← hwA]
      have HBA := Lib.hid (hbel.trans (hbA.mono hws))
      have hO4 : wA.ownsRow w1.heap.size 70 3 (.slice uo q uc) q (pc P) := own_below HOW.out hbA
      obtain ⟨⟨d0, d1, d2⟩, -⟩ := bx3 hbox
      generalize w5.heap.size = bx at *
      clear hwA hbox hbA
      go_wp2_with (at_builtin; refine append1 [.int .i64 κ, .string Sn, .string V] elMt rfl _ _ rfl hO4 HBA.out HBA.out.size rfl rfl rfl (by intro x hx; simp at hx; rcases hx with rfl | rfl | rfl <;> rfl) ?c4 ?c5 ?_)
      case c4 => omega
      case c5 => omega
      intro v6 w6 hown6 hbel6 hgr6
      have HON3 : Hid (Ow MtR 3 70 w1.heap.size w6 v6 (O ++ [m])) := Lib.hid (Ow.snoc (w := wA) (mtR_grow _ _ _) HPP.out.1 HPP.out.2.1 (fun q hq => HPP.out.2.2 q hq) hO4 HQ.out.symm hgr6 hown6 rfl HMR.out)
      have HB6 := Lib.hid hbel6
      obtain ⟨vo, vc, rfl, -, -, -⟩ := own_shape hown6
      clear hO4 hown6 hgr6 hbel6 d0 d1 d2
      go_wp2_with (go_at_call 58; refine (HTP2.out _).mono ?_; rintro e w7 ⟨rfl, rfl⟩)
      go_roundg (trimC b).length
      case measure => have := HLN.out; omega
      case rel => exact ⟨trimC b, O ++ [m], q + 1, Lib.hid rfl, HQ2, (by have := HLN.out; omega), rfl, HON3, HC2, HB6.out⟩
end Go.Proofs.YtlfhcjhbnakamaaGreatDoor.Lab
/-
  Labels: the walk of Read.
-/
namespace Go.Proofs.YtlfhcjhbnakamaaGreatDoor.Lab
open Go.RowKit Go.Gh
set_option linter.unusedVariables false
set_option linter.unusedSimpArgs false
theorem asL_take {L : List Mt} {k : Nat} {x : Mt} (h : L[k]? = some x) : asL (L.take (k + 1)) = asL (L.take k) ++ [⟨x.nm, x.vl⟩] := by
  unfold asL
  rw [List.take_add_one, h, List.map_append]
  rfl
theorem asL_len (L : List Mt) : (asL L).length = L.length := by unfold asL; rw [List.length_map]
theorem rmF_spec {l : By} {ms : List Mt} (h : rmF l = some ms) : matchF ms = 0 ∧ textM ms = l := by
  unfold rmF at h
  split at h
  · rename_i hp
    injection h with h
    rw [← h]
    exact hp.choose_spec
  · simp at h
/-- The labels, or the fault. -/
def LbP (w : World) (r : Option (List Lb)) (e : Ending) (w' : World) : Prop := Below w.heap.size w w' ∧ match r with
  | none => e = .returned (.tuple #[.slice none 0 0, .int .i64 4])
  | some ms => ∃ v, e = .returned (.tuple #[v, .int .i64 0]) ∧ Ow LbR 2 72 w.heap.size w' v ms
theorem lbP_none {w w' : World} {r : Option (List Lb)} {e : Ending} (hr : r = none) (hb : Below w.heap.size w w') (he : e = .returned (.tuple #[.slice none 0 0, .int .i64 4])) : LbP w r e w' := by
  subst hr
  exact ⟨hb, he⟩
theorem lbP_some {w w' : World} {r : Option (List Lb)} {e : Ending} {ms : List Lb} {v : Value} (hr : r = some ms) (hb : Below w.heap.size w w') (he : e = .returned (.tuple #[v, .int .i64 0])) (ho : Ow LbR 2 72 w.heap.size w' v ms) : LbP w r e w' := by
  subst hr
  exact ⟨hb, v, he, ho⟩
theorem lbF_none {l : By} (h : rmF l = none) : lbF l = none := by unfold lbF; rw [h]
theorem lbF_some {l : By} {ms : List Mt} (h : rmF l = some ms) : lbF l = if labelF (asL ms) = 0 ∧ textM (asM (asL ms)) = l then some (asL ms) else none := by unfold lbF; rw [h]
set_option maxHeartbeats 8000000 in
set_option maxRecDepth 100000 in
theorem lbread_any (l : By) (w : World) (hsz : l.length ≤ 1048576) (hT : STab w) : Calls Tryz.prog 8 #[.string (mkS l)] w (LbP w (lbF l)) := by
  have HRM := Lib.hid (rm_any l w hsz hT)
  obtain ⟨X, hX⟩ : ∃ R, rmF l = R := ⟨_, rfl⟩
  rw [hX] at HRM
  have HX := Lib.hid hX
  have HT := Lib.hid hT
  obtain ⟨R, hR⟩ : ∃ R, lbF l = R := ⟨_, rfl⟩
  rw [hR]
  have HR := Lib.hid hR
  obtain ⟨S, hS⟩ : ∃ z, mkS l = z := ⟨_, rfl⟩
  rw [hS] at HRM ⊢
  have HS := Lib.hid hS
  clear hX hT hR hS hsz
  cases X with
  | none =>
    have HN := Lib.hid (lbF_none HX.out)
    rw [HR.out] at HN
    go_enter Tryz.func8, Tryz.ntmps8
    go_wp2_with (go_at_call 26; refine HRM.out.mono ?_; rintro e w1 ⟨hb1, rfl⟩; have HB1 := Lib.hid hb1; clear hb1)
    go_ret2
    exact lbP_none HN.out HB1.out rfl
  | some ms =>
    obtain ⟨m0, m1⟩ := rmF_spec HX.out
    obtain ⟨n, hn⟩ : ∃ n, ms.length = n := ⟨_, rfl⟩
    have hn10 : n ≤ 10 := by rw [← hn]; exact (matchF_zero m0).1
    have HN := Lib.hid hn
    have HLB := Lib.hid (lbF_some HX.out)
    rw [HR.out] at HLB
    have HRM2 : Hid (Calls Tryz.prog 26 #[.string S] w fun e w' => Below w.heap.size w w' ∧ ∃ ao c, e = .returned (.tuple #[.slice ao n c, .int .i64 0]) ∧ Ow MtR 3 70 w.heap.size w' (.slice ao n c) ms) := Lib.hid (HRM.out.mono (fun e w' h => by
      obtain ⟨hb, v, he, ho⟩ := h
      obtain ⟨ao, c, rfl, -, -⟩ := ho.sp.shapeN HN.out
      exact ⟨hb, ao, c, he, ho⟩))
    clear m0 m1 hn HRM
    go_enter Tryz.func8, Tryz.ntmps8
    go_wp2_with (go_at_call 26; refine HRM2.out.mono ?_; rintro e w1 ⟨hb1, ao, c, rfl, ho⟩; have HB1 := Lib.hid hb1; have HO1 := Lib.hid ho.sp; clear hb1 ho)
    have hs1 := HB1.out.size
    go_loopw [6, 21] (fun u i wr => ∃ (k : Nat), k ≤ n ∧ i = .int .i64 k ∧ Hid (Ow LbR 2 72 w1.heap.size wr u (asL (ms.take k))) ∧ Below w1.heap.size w1 wr) (fun _ i _ => n - (intOf i).toNat)
    case atStart => exact ⟨0, Nat.zero_le _, rfl, Lib.hid Ow.nil, Below.refl _ _⟩
    case round =>
      obtain ⟨k, hk, rfl, HO, hbel⟩ := hrel
      have hsz := hbel.size
      have HPL : Hid ((asL (ms.take k)).length = k) := Lib.hid (by rw [asL_len, List.length_take, HN.out]; omega)
      obtain ⟨uo, uc, rfl, hu1, hu2⟩ := Sp.shapeN HO.out.sp HPL.out
      by_cases hlt : k < n
      case neg =>
        obtain rfl : k = n := by omega
        have HO2 : Hid (Ow LbR 2 72 w1.heap.size wr (.slice uo k uc) (asL ms)) := Lib.hid (by have := HO.out; rwa [List.take_of_length_le (by rw [HN.out]; exact Nat.le_refl _)] at this)
        have hbw := HB1.out.trans (hbel.mono hs1)
        have HBW := Lib.hid hbw
        have HMT := Lib.hid (text2_any _ (asL ms) wr HO2.out.sp (HT.out.below hbw))
        obtain ⟨E, hE⟩ : ∃ E, labelF (asL ms) = E := ⟨_, rfl⟩
        rw [hE] at HMT HLB
        clear hE hbw hbel
        by_cases hz : E = 0
        case neg =>
          have HN2 : Hid (R = none) := Lib.hid (by rw [HLB.out, if_neg (fun h => hz h.1)])
          have t1 : (E != 0) = true := by rw [bne_iff_ne]; exact hz
          have HMT2 : Hid (Calls Tryz.prog 7 #[.slice uo k uc] wr fun e w' => e = .returned (.tuple #[.string ⟨#[]⟩, .int .i64 E]) ∧ Below wr.heap.size wr w') := Lib.hid (by
            have h := HMT.out
            unfold txP at h
            rw [if_neg hz] at h
            exact h)
          clear hz HMT HLB
          go_wp2_with (go_at_call 7; refine HMT2.out.mono ?_; rintro e w5 ⟨rfl, hb5⟩; have HB5 := Lib.hid (HBW.out.trans (hb5.mono HBW.out.size)); clear hb5)
          go_ret2
          exact lbP_none HN2.out HB5.out rfl
        subst hz
        obtain ⟨X, hX⟩ : ∃ X, mkS (textM (asM (asL ms))) = X := ⟨_, rfl⟩
        have HMT2 : Hid (Calls Tryz.prog 7 #[.slice uo k uc] wr fun e w' => e = .returned (.tuple #[.string X, .int .i64 0]) ∧ Below wr.heap.size wr w') := Lib.hid (by
          have h := HMT.out
          unfold txP at h
          rw [if_pos rfl, hX] at h
          exact h)
        have hxs : (X.toList == S.toList) = decide (textM (asM (asL ms)) = l) := by
          rw [← hX, ← HS.out, mkS_list, mkS_list, Bool.eq_iff_iff]
          simp
        by_cases hts : textM (asM (asL ms)) = l
        · rw [decide_eq_true hts] at hxs
          have HN2 : Hid (R = some (asL ms)) := Lib.hid (by rw [HLB.out, if_pos ⟨rfl, hts⟩])
          clear hts HMT hX HLB
          go_wp2_with (go_at_call 7; refine HMT2.out.mono ?_; rintro e w5 ⟨rfl, hb5⟩; have HB5 := Lib.hid hb5; clear hb5)
          go_ret2
          exact lbP_some HN2.out (HBW.out.trans (HB5.out.mono HBW.out.size)) rfl ((HO2.out.mono hs1).below lbR_mono HB5.out)
        · rw [decide_eq_false hts] at hxs
          have HN2 : Hid (R = none) := Lib.hid (by rw [HLB.out, if_neg (fun h => hts h.2)])
          clear hts HMT hX HLB
          go_wp2_with (go_at_call 7; refine HMT2.out.mono ?_; rintro e w5 ⟨rfl, hb5⟩; have HB5 := Lib.hid hb5; clear hb5)
          go_ret2
          exact lbP_none HN2.out (HBW.out.trans (HB5.out.mono HBW.out.size)) rfl
      obtain ⟨x, hx⟩ : ∃ x, ms[k]? = some x := ⟨_, List.getElem?_eq_getElem (by rw [HN.out]; exact hlt)⟩
      obtain ⟨b, off, cs, rfl, ⟨rfl, hl1, hl2, hl3, hl4⟩, _, hck⟩ := (HO1.out.below mtR_mono hbel).get hx
      have HXK := Lib.hid hx
      have c0 := hck 0 _ rfl
      have c1 := hck 1 _ rfl
      have c2 := hck 2 _ rfl
      rw [Nat.add_zero] at c0
      obtain ⟨P, hP1, hP2, hP3, hP4⟩ := HO.out
      rw [HPL.out] at hP4
      have HPP := Lib.hid (And.intro hP1 (And.intro hP2 hP3))
      have HOW := Lib.hid hP4
      have HMR : Hid (LbR w ⟨x.nm, x.vl⟩ [.string (mkS x.nm), .string (mkS x.vl)]) := Lib.hid ⟨rfl, hl1, hl2⟩
      obtain ⟨κ, hκ⟩ : ∃ z, z = x.kd := ⟨_, rfl⟩
      obtain ⟨Sn, hSn⟩ : ∃ S, S = mkS x.nm := ⟨_, rfl⟩
      obtain ⟨V, hV⟩ : ∃ S, S = mkS x.vl := ⟨_, rfl⟩
      rw [← hSn, ← hV] at HMR
      rw [← hκ] at c0
      rw [← hSn] at c1
      rw [← hV] at c2
      clear hck hx hP1 hP2 hP3 hP4 hSn hV hl1 hl2 hl3 hl4 hκ
      go_upto_region 8 with (fail)
      obtain ⟨wA, hwA⟩ : ∃ wA, wA = wr.alloc (Obj.cells #[.int .i64 κ, .string Sn, .string V] 70) := ⟨_, rfl⟩
      have hbox : wA.heap[wr.heap.size]? = some (.cells #[.int .i64 κ, .string Sn, .string V] 70 (0, 0)) := by rw [hwA]; exact heap_alloc_new wr _
      have hbA : Below wr.heap.size wr wA := by rw [hwA]; exact (Below.refl _ _).alloc (Nat.le_refl _) _
      rw [← hwA]
      have HBA := Lib.hid (hbel.trans (hbA.mono hsz))
      have hO4 : wA.ownsRow w1.heap.size 72 2 (.slice uo k uc) k (pc P) := own_below HOW.out hbA
      obtain ⟨⟨d0, d1, d2⟩, -⟩ := bx3 hbox
      generalize wr.heap.size = bx at *
      clear hwA hbox hbA c0 c1 c2
      go_wp2_with (at_builtin; refine append1 [.string Sn, .string V] elLb rfl _ _ rfl hO4 HBA.out HBA.out.size rfl rfl rfl (by intro x hx; simp at hx; rcases hx with rfl | rfl <;> rfl) ?c4 ?c5 ?_)
      case c4 => omega
      case c5 => omega
      intro v5 w5 hown5 hbel5 hgr5
      have HON : Hid (Ow LbR 2 72 w1.heap.size w5 v5 (asL (ms.take (k + 1)))) := Lib.hid (by
        rw [asL_take HXK.out]
        exact Ow.snoc (w := wA) (lbR_grow _ _ _) HPP.out.1 HPP.out.2.1 (fun q hq => HPP.out.2.2 q hq) hO4 HPL.out.symm hgr5 hown5 rfl HMR.out)
      have HB5 := Lib.hid hbel5
      obtain ⟨vo, vc, rfl, -, -, -⟩ := own_shape hown5
      clear hO4 hown5 hgr5 hbel5 d0 d1 d2
      go_wp2_with fail
      go_roundw
      case rel => exact ⟨k + 1, by omega, by go_num, HON, HB5.out⟩
      case measure => simp [intOf]; omega
end Go.Proofs.YtlfhcjhbnakamaaGreatDoor.Lab
