/-
  The walk of the law BitsPush.
-/
import Derived.Test.YtkpjgenlonfkmaaPush
import Derived.Test.YtkpjgenlonfkmaaPull
import Derived.Test.YtkpjgenlonfkmaaBits7
namespace Go.Proofs.Ytkpjgenlonfkmaa.BitsPush
open Go.RowKit Go.Gh Go.WideShapes Go.Proofs.Ytkpjgenlonfkmaa.Bits
set_option linter.unusedVariables false

theorem sbits_cutN (s : List Bool) (k n : Nat) (h : k + n ≤ s.length) : (sbits s).extract k (k + n) = sbits ((s.drop k).take n) := by
  unfold sbits
  rw [ByteArray.extract_mk, List.map_take, List.map_drop, show k + n - k = n from by omega]
theorem sameB_self (L : List Int) (N : Int) : sameB L L N N = true := decide_eq_true ⟨rfl, rfl⟩
theorem wf_of_bytes {l : List Int} (h : Bytes l) : ∀ z ∈ l, (Lit.int .u8 z).wf = true := by
  intro z hz
  have := h z hz
  simp [Lit.wf, IntKind.min, IntKind.max, IntKind.signed, IntKind.bits]
  omega
theorem bytes_of_wf {l : List Int} (h : ∀ z ∈ l, (Lit.int .u8 z).wf = true) : Bytes l := fun z hz => wf_u8 (h z hz)
theorem bitsV_own {w : World} {B : Nat} {b : Value} {L : List Int} {N : Int} (h : w.ownsRow B 5 1 b L.length (L.map (Value.int .u8))) (hL : Bytes L) (hl : L.length ≤ 140737488355328) (hN0 : -9223372036854775808 ≤ N) (hN1 : N ≤ 9223372036854775807) : BitsV w (.agg #[b, .int .i64 N]) L N :=
  ⟨b, _, rfl, own_sl h, hL, wf_of_bytes hL, hl, hN0, hN1⟩
theorem bitsV_below {w w' : World} {v : Value} {L : List Int} {N : Int} (h : BitsV w v L N) (hb : Below w.heap.size w w') : BitsV w' v L N := by
  obtain ⟨b, n, h1, h2, h3⟩ := h
  exact ⟨b, n, h1, h2.below hb, h3⟩
theorem bitsV_zero (w : World) : BitsV w (.agg #[.slice none 0 0, .int .i64 0]) [] 0 :=
  ⟨_, 0, rfl, ⟨none, 0, rfl, Nat.le_refl _, Nat.zero_le _, fun _ => rfl, rfl, fun h => absurd h (Nat.lt_irrefl _)⟩, by intro z hz; simp at hz, by intro z hz; simp at hz, by decide, by decide, by decide⟩
theorem pushR_facts (l : List Int) (N v n : Int) : Bytes (pushR l N v n).1 ∧ (pushR l N v n).1.length ≤ 140737488355328 ∧ -9223372036854775808 ≤ (pushR l N v n).2.1 ∧ (pushR l N v n).2.1 ≤ 9223372036854775807 := by
  unfold pushR
  have h0 : Bytes [] := by intro z hz; simp at hz
  split
  · exact ⟨h0, by simp, by simp, by simp⟩
  · split
    · exact ⟨h0, by simp, by simp, by simp⟩
    · split
      · exact ⟨h0, by simp, by simp, by simp⟩
      · rename_i h1 h2 h3
        have h4 : 0 ≤ N := by
          have := Classical.not_not.1 h1
          exact this.1
        have h5 : 0 ≤ n := by omega
        refine ⟨pack_bytes _, ?_, ?_, ?_⟩
        · rw [pack_len]; simp [unpack_len, signs_len]; omega
        · simp; omega
        · simp; omega

def IsBits (w : World) (v : Value) : Prop := ∃ l N, BitsV w v l N ∧ l.length ≤ 1048576

set_option maxRecDepth 100000 in
set_option maxHeartbeats 4000000 in
theorem walk (x v0 v1 v2 : Value) (w : World) (hx : IsBits w x) (h0 : IsInt .u64 w v0) (h1 : IsInt .i64 w v1) (h2 : IsInt .i64 w v2) :
    Calls Try.prog 8 #[x, v0, v1, v2] w fun e w' => e = .returned (.bool true) ∧ Below w.heap.size w w' := by
  obtain ⟨l, N, hx, hl20⟩ := hx
  have HLL := Lib.hid hl20
  clear hl20
  obtain ⟨v, rfl, hv⟩ := h0
  obtain ⟨n, rfl, hn⟩ := h1
  obtain ⟨at', rfl, ha⟩ := h2
  have hv := wf_u64 hv
  have hn := wf_i64 hn
  have ha := wf_i64 ha
  have hx0 := hx
  obtain ⟨b, len, rfl, hs, hl, hwf, hlen, hN0, hN1⟩ := hx
  obtain ⟨ao, c, rfl, hnc, hc, hll⟩ := hs.shape
  go_enter Try.func8, Try.ntmps8
  go_upto_region 1 with (fail)
  refine wp_abs (fun w1 => BitsV w1 (.agg #[.slice ao len c, .int .i64 N]) l N ∧ w1.heap[w.heap.size]? = some (.cells #[.slice ao len c, .int .i64 N] 56 (0, 0)) ∧ Below w.heap.size w w1 ∧ w.heap.size + 1 ≤ w1.heap.size)
    ⟨bitsV_below hx0 ((Below.refl _ _).alloc (Nat.le_refl _) _), heap_alloc_new w _, (Below.refl _ _).alloc (Nat.le_refl _) _, by simp⟩ ?_
  rintro w1 ⟨hx1, hb, hbel, hsz⟩
  have c0 : w1.cell? ⟨w.heap.size, 0, none⟩ = some (.slice ao len c) := (row_cell 0 _ hb rfl).1
  have c1 : w1.cell? ⟨w.heap.size, 1, none⟩ = some (.int .i64 N) := (row_cell 1 _ hb rfl).1
  by_cases hmid : 2000 < N ∧ N ≤ 80000
  · obtain ⟨m1, m2⟩ := hmid
    go_wp2_with fail
    go_ret
    exact ⟨rfl, hbel⟩
  · go_cut [21] (fun c wx => c = .bool false ∧ w1 = wx)
    case first =>
      by_cases h20 : 2000 < N
      · have h80 : ¬ N ≤ 80000 := fun h => hmid ⟨h20, h⟩
        have d2 : decide (N ≤ 80000) = false := by simpa using h80
        go_wp2_with fail
        go_meet
        exact ⟨rfl, rfl⟩
      · go_wp2_with fail
        go_meet
        exact ⟨rfl, rfl⟩
    case rest =>
      obtain ⟨rfl, rfl⟩ := hcut
      clear hs hll hnc hc hl hwf hmid hx0
      go_wp2_with fail
      refine (fault_any _ l N _ hx1).mono ?_
      rintro e w2 ⟨rfl, hbel2⟩
      have hx2 := bitsV_below hx1 hbel2
      have hb2 := (hbel2.block _ (by omega)).trans hb
      have hf2 := hbel.trans (hbel2.mono hbel.size)
      have c02 : w2.cell? ⟨w.heap.size, 0, none⟩ = some (.slice ao len c) := (row_cell 0 _ hb2 rfl).1
      have c12 : w2.cell? ⟨w.heap.size, 1, none⟩ = some (.int .i64 N) := (row_cell 1 _ hb2 rfl).1
      have hz2 : w.heap.size + 1 ≤ w2.heap.size := Nat.le_trans hsz hbel2.size
      clear hx1 hb hbel hbel2 c0 c1 hsz
      go_wp2_with fail
      refine (push_any _ l N v n _ hx2 hv.1 hv.2 hn.1 hn.2).mono ?_
      rintro e w3 ⟨yb, rfl, hown, hbel3⟩
      have hpf := pushR_facts l N v n
      generalize hr : pushR l N v n = r at *
      obtain ⟨L, N', E⟩ := r
      obtain ⟨p1, p2, p3, p4⟩ := hpf
      have HR := Lib.hid hr
      clear hr
      have hy := bitsV_own hown p1 p2 p3 p4
      obtain ⟨ao', c', hyb, _, _, _⟩ := (own_sl hown).shape
      simp only at hyb hy hown p1 p2 p3 p4
      subst hyb
      have hb3 := (hbel3.block _ (by omega)).trans hb2
      have hf3 := hf2.trans (hbel3.mono hf2.size)
      have hx3 := bitsV_below hx2 hbel3
      have hz3 := hbel3.size
      clear hx2 hb2 hf2 c02 c12 hown hbel3
      go_upto_region 5 with (fail)
      refine wp_abs (fun w4 => BitsV w4 (.agg #[.slice ao len c, .int .i64 N]) l N ∧ BitsV w4 (.agg #[.slice ao' L.length c', .int .i64 N']) L N' ∧ w4.heap[w.heap.size]? = some (.cells #[.slice ao len c, .int .i64 N] 56 (0, 0)) ∧ w4.heap[w3.heap.size]? = some (.cells #[.slice ao' L.length c', .int .i64 N'] 56 (0, 0)) ∧ Below w.heap.size w w4 ∧ w3.heap.size + 1 ≤ w4.heap.size)
        ⟨bitsV_below hx3 ((Below.refl _ _).alloc (Nat.le_refl _) _), bitsV_below hy ((Below.refl _ _).alloc (Nat.le_refl _) _), (Below.heap_alloc _ _ _ (by omega)).trans hb3, heap_alloc_new w3 _, hf3.alloc (by omega) _, by simp⟩ ?_
      clear hx3 hy hb3 hf3
      rintro w4 ⟨hx4, hy4, hb4, hyb4, hf4, hz4⟩
      have c04 : w4.cell? ⟨w.heap.size, 0, none⟩ = some (.slice ao len c) := (row_cell 0 _ hb4 rfl).1
      have c14 : w4.cell? ⟨w.heap.size, 1, none⟩ = some (.int .i64 N) := (row_cell 1 _ hb4 rfl).1
      go_wp2_with fail
      refine (pull_any _ l N at' n _ hx4 ha.1 ha.2 hn.1 hn.2).mono ?_
      rintro e w5 ⟨rfl, hbel5⟩
      generalize hq : pullR l N at' n = q at *
      obtain ⟨V, G⟩ := q
      have HQ := Lib.hid hq
      clear hq
      have hx5 := bitsV_below hx4 hbel5
      have hy5 := bitsV_below hy4 hbel5
      have hb5 := (hbel5.block _ (by omega)).trans hb4
      have hyb5 := (hbel5.block _ (by omega)).trans hyb4
      have hf5 := hf4.trans (hbel5.mono hf4.size)
      have hz5 := hbel5.size
      clear hx4 hy4 hb4 hyb4 hf4 hbel5 c04 c14
      have c05 : w5.cell? ⟨w.heap.size, 0, none⟩ = some (.slice ao len c) := (row_cell 0 _ hb5 rfl).1
      have c15 : w5.cell? ⟨w.heap.size, 1, none⟩ = some (.int .i64 N) := (row_cell 1 _ hb5 rfl).1
      rw [UE]
      go_wp2_with fail
      refine (check_any _ l N _ hx5).mono ?_
      rintro e w6 ⟨rfl, hbel6⟩
      have hx6 := bitsV_below hx5 hbel6
      have hy6 := bitsV_below hy5 hbel6
      have hb6 := (hbel6.block _ (by omega)).trans hb5
      have hyb6 := (hbel6.block _ (by omega)).trans hyb5
      have hf6 := hf5.trans (hbel6.mono hf5.size)
      have hz6 := hbel6.size
      clear hx5 hy5 hb5 hyb5 hf5 hbel6 c05 c15
      have c06 : w6.cell? ⟨w.heap.size, 0, none⟩ = some (.slice ao len c) := (row_cell 0 _ hb6 rfl).1
      have c16 : w6.cell? ⟨w.heap.size, 1, none⟩ = some (.int .i64 N) := (row_cell 1 _ hb6 rfl).1
      have y06 : w6.cell? ⟨w3.heap.size, 0, none⟩ = some (.slice ao' L.length c') := (row_cell 0 _ hyb6 rfl).1
      have y16 : w6.cell? ⟨w3.heap.size, 1, none⟩ = some (.int .i64 N') := (row_cell 1 _ hyb6 rfl).1
      have hyB : w.heap.size + 1 ≤ w3.heap.size := by omega
      have hwB : w3.heap.size + 1 ≤ w6.heap.size := by omega
      have hBw : w.heap.size < w6.heap.size := by omega
      clear hz2 hz3 hz4 hz5 hz6 hb6 hyb6
      have t1 : (faultB l N != faultB l N) = false := by simp
      by_cases hok : okB l N
      · have HF : Hid (faultB l N = 0) := if_pos hok
        rw [HF.out]
        by_cases hb1 : n < 0 ∨ 64 < n
        · have e1 : (L, N', E) = (([] : List Int), (0 : Int), (1 : Int)) := by
            rw [← HR.out]; unfold pushR
            rw [if_neg (not_not_intro hok), if_pos (by omega)]
          have e2 : (V, G) = ((0 : Int), (1 : Int)) := by
            rw [← HQ.out]; unfold pullR
            rw [if_neg (not_not_intro hok), if_pos (by omega)]
          simp only [Prod.mk.injEq] at e1 e2
          obtain ⟨rfl, rfl, rfl⟩ := e1
          obtain ⟨rfl, rfl⟩ := e2
          clear HQ HR
          rcases hb1 with h1 | h1
          all_goals
            go_wp2_with fail
            refine (samebits_any _ _ [] [] 0 0 _ hy6 (bitsV_zero _)).mono ?_
            rintro e w7 ⟨rfl, hbel7⟩
            rw [sameB_self]
            have hf7 := hf6.trans (hbel7.mono hf6.size)
            go_wp2_with fail
            go_ret
            exact ⟨rfl, hf7⟩
        · obtain ⟨m, rfl⟩ := Int.eq_ofNat_of_zero_le (show 0 ≤ n by omega)
          have hm64 : m ≤ 64 := by omega
          have hN8 : 0 ≤ N ∧ N ≤ 8388608 := by have := hok.1; have := hok.2.1; have := HLL.out; omega
          obtain ⟨M, rfl⟩ := Int.eq_ofNat_of_zero_le hN8.1
          have hM : M ≤ 8388608 := by omega
          have g1 : ¬ (m : Int) < 0 := by omega
          have g2 : ¬ 64 < (m : Int) := by omega
          have hvv := hv
          clear hb1 hn hN0 hN1 hN8 hlen
          obtain ⟨hn0, hn1⟩ : -9223372036854775808 ≤ (m : Int) ∧ (m : Int) < 9223372036854775808 := by omega
          clear hn0 hn1
          by_cases hbig : m < 64 ∧ ¬ v / 2 ^ m = 0
          case' pos =>
            have e1 : (L, N', E) = (([] : List Int), (0 : Int), (1 : Int)) := by
              rw [← HR.out]; unfold pushR
              rw [if_neg (not_not_intro hok), if_pos (by right; right; exact ⟨by omega, by rw [Int.toNat_natCast]; exact hbig.2⟩)]
            simp only [Prod.mk.injEq] at e1
            obtain ⟨rfl, rfl, rfl⟩ := e1
            obtain ⟨h64, hnz⟩ := hbig
            have hq0 : 0 < v / 2 ^ m := by
              have := Int.ediv_nonneg hv.1 (Int.le_of_lt (two_pow_pos m))
              omega
            clear hnz HR
            go_wp2_with fail
            refine (samebits_any _ _ [] [] 0 0 _ hy6 (bitsV_zero _)).mono ?_
            rintro e w7 ⟨rfl, hbel7⟩
            rw [sameB_self]
            go_upto_region 20 with (fail)
            have hx8 := bitsV_below hx6 hbel7
            have c08 := (hbel7.cell (p := ⟨w.heap.size, 0, none⟩) hBw).trans c06
            have c18 := (hbel7.cell (p := ⟨w.heap.size, 1, none⟩) hBw).trans c16
            have hf8 := hf6.trans (hbel7.mono hf6.size)
            clear hx6 c06 c16 hf6 hbel7 y06 y16
          case' neg =>
            have hnz : m < 64 → v / 2 ^ m = 0 := fun h => Classical.byContradiction fun h' => hbig ⟨h, h'⟩
            have hnb : ¬ ((m : Int) < 0 ∨ 64 < (m : Int) ∨ ((m : Int) < 64 ∧ ¬ v / 2 ^ ((m : Int)).toNat = 0)) := by
              rintro (h | h | ⟨h, h'⟩)
              · omega
              · omega
              · exact h' (by rw [Int.toNat_natCast]; exact hnz (by omega))
            by_cases h80 : 80000 < (M : Int) + m
            case' pos =>
              have e1 : (L, N', E) = (([] : List Int), (0 : Int), (2 : Int)) := by
                rw [← HR.out]; unfold pushR
                rw [if_neg (not_not_intro hok), if_neg hnb, if_pos h80]
              simp only [Prod.mk.injEq] at e1
              obtain ⟨rfl, rfl, rfl⟩ := e1
              clear HR hbig hnb
              go_upto_region 12 with (fail)
              go_cut [82] (fun c wx => c = .bool false ∧ w6 = wx)
              case first =>
                by_cases h64 : m < 64
                · have hz := hnz h64
                  have hz0 : ¬ 0 < v / 2 ^ m := by omega
                  clear hz hnz
                  go_wp2_with fail
                  go_meet
                  exact ⟨rfl, rfl⟩
                · clear hnz
                  go_wp2_with fail
                  go_meet
                  exact ⟨rfl, rfl⟩
              case' rest =>
                obtain ⟨rfl, rfl⟩ := hcut
                clear hnz
                go_wp2_with fail
                refine (samebits_any _ _ [] [] 0 0 _ hy6 (bitsV_zero _)).mono ?_
                rintro e w7 ⟨rfl, hbel7⟩
                rw [sameB_self]
                go_upto_region 20 with (fail)
                have hx8 := bitsV_below hx6 hbel7
                have c08 := (hbel7.cell (p := ⟨w.heap.size, 0, none⟩) hBw).trans c06
                have c18 := (hbel7.cell (p := ⟨w.heap.size, 1, none⟩) hBw).trans c16
                have hf8 := hf6.trans (hbel7.mono hf6.size)
                clear hx6 c06 c16 hf6 hbel7 y06 y16
            case' neg =>
              have e1 : (L, N', E) = (pack (unpack l M ++ signs v m), (M : Int) + m, (0 : Int)) := by
                rw [← HR.out]; unfold pushR
                rw [if_neg (not_not_intro hok), if_neg hnb, if_neg h80]; simp
              simp only [Prod.mk.injEq] at e1
              obtain ⟨hL, rfl, rfl⟩ := e1
              clear HR hbig hnb
              go_upto_region 12 with (fail)
              go_cut [82] (fun c wx => c = .bool false ∧ w6 = wx)
              case first =>
                by_cases h64 : m < 64
                · have hz := hnz h64
                  have hz0 : ¬ 0 < v / 2 ^ m := by omega
                  clear hz hnz
                  go_wp2_with fail
                  go_meet
                  exact ⟨rfl, rfl⟩
                · clear hnz
                  go_wp2_with fail
                  go_meet
                  exact ⟨rfl, rfl⟩
              case' rest =>
                obtain ⟨rfl, rfl⟩ := hcut
                clear hnz
                go_upto_region 18 with (fail)
                have hsu : (sbits (unpack l M)).size ≤ 8388608 := by rw [sbits_size, unpack_len]; exact hM
                have hss : (sbits (signs v m)).size ≤ 64 := by rw [sbits_size, signs_len]; exact hm64
                have hsum : (9223372036854775807 < (sbits (unpack l M)).size + (sbits (signs v m)).size) = False := eq_false (by omega)
                have hlen9 : (unpack l M ++ signs v m).length ≤ 90000 := by simp [unpack_len, signs_len]; omega
                have HLEN : Hid (((unpack l M ++ signs v m).length : Int) = (M : Int) + m) := by show _ = _; simp [unpack_len, signs_len]
                have HAPP := Lib.hid (sbits_append (unpack l M) (signs v m))
                have HLL2 := Lib.hid hL
                clear hL
                have g0E : ((0 : Int) != 0) = false := rfl
                go_cut [113] (fun c wx => c = .bool false ∧ Below w6.heap.size w6 wx)
                case first =>
                  go_region_law (first
                    | (go_simp; go_at_call 42; refine (unpacked_any _ l M _ (bitsV_below hx6 (Below.refl _ _).drew) hok (by omega)).mono ?_; rintro e wu ⟨rfl, hbu⟩; have hBu : Below w6.heap.size w6 wu := ((Below.refl _ _).drew).trans hbu; have yu0 := (hBu.cell (p := ⟨w3.heap.size, 0, none⟩) (show w3.heap.size < w6.heap.size by omega)).trans y06; have yu1 := (hBu.cell (p := ⟨w3.heap.size, 1, none⟩) (show w3.heap.size < w6.heap.size by omega)).trans y16)
                    | (go_simp; go_at_call 43; refine (signs_any v m hv.1 hv.2 (by omega) _).mono ?_; rintro e wv ⟨rfl, rfl⟩)
                    | (go_simp; go_at_call 41; rw [HAPP.out]; refine (packed_any _ hlen9 _).mono ?_; rintro e wp ⟨pb, rfl, hownp, hbp⟩; rw [HLEN.out, ← HLL2.out] at *; have hBp : Below w6.heap.size w6 wp := hBu.trans (hbp.mono hBu.size); have yp0 := (hBp.cell (p := ⟨w3.heap.size, 0, none⟩) (show w3.heap.size < w6.heap.size by omega)).trans y06; have yp1 := (hBp.cell (p := ⟨w3.heap.size, 1, none⟩) (show w3.heap.size < w6.heap.size by omega)).trans y16)
                    | (go_simp; go_at_call 40; refine (samebits_any _ _ L L _ _ _ (bitsV_below hy6 hBp) (bitsV_own hownp p1 p2 p3 p4)).mono ?_; rintro e wq ⟨rfl, hbq⟩; rw [sameB_self]; have hBq : Below w6.heap.size w6 wq := hBp.trans (hbq.mono hBp.size)))
                  all_goals (go_wp2_with fail; go_meet; exact ⟨rfl, hBq⟩)
                case' rest =>
                  obtain ⟨rfl, hbel7⟩ := hcut
                  clear hsu hss hsum hlen9 HLEN HAPP HLL2 g0E
                  go_upto_region 20 with (fail)
                  have hx8 := bitsV_below hx6 hbel7
                  have c08 := (hbel7.cell (p := ⟨w.heap.size, 0, none⟩) hBw).trans c06
                  have c18 := (hbel7.cell (p := ⟨w.heap.size, 1, none⟩) hBw).trans c16
                  have hf8 := hf6.trans (hbel7.mono hf6.size)
                  clear hx6 c06 c16 hf6 hbel7 y06 y16
          all_goals
            clear hy6
            by_cases ha0 : at' < 0
            · have e2 : (V, G) = ((0 : Int), (1 : Int)) := by
                rw [← HQ.out]; unfold pullR
                rw [if_neg (not_not_intro hok), if_pos (by omega)]
              simp only [Prod.mk.injEq] at e2
              obtain ⟨rfl, rfl⟩ := e2
              clear HQ
              go_wp2_with fail
              go_ret
              exact ⟨rfl, hf8⟩
            · obtain ⟨A, rfl⟩ := Int.eq_ofNat_of_zero_le (show 0 ≤ at' by omega)
              by_cases hsh : (M : Int) - m < A
              · have e2 : (V, G) = ((0 : Int), (3 : Int)) := by
                  rw [← HQ.out]; unfold pullR
                  rw [if_neg (not_not_intro hok), if_neg (by omega), if_pos hsh]
                simp only [Prod.mk.injEq] at e2
                obtain ⟨rfl, rfl⟩ := e2
                clear HQ ha
                go_wp2_with fail
                go_ret
                exact ⟨rfl, hf8⟩
              · have e2 : (V, G) = (valF 0 (((unpack l M).drop A).take m), (0 : Int)) := by
                  rw [← HQ.out]; unfold pullR
                  rw [if_neg (not_not_intro hok), if_neg (by omega), if_neg hsh]; simp
                simp only [Prod.mk.injEq] at e2
                obtain ⟨hV, rfl⟩ := e2
                have HV := Lib.hid hV
                clear hV HQ ha
                have HX := Lib.hid (sbits_cutN (unpack l M) A m (by rw [unpack_len]; omega))
                have hAs : A + m ≤ (sbits (unpack l M)).size := by rw [sbits_size, unpack_len]; omega
                have hSM : (sbits (unpack l M)).size ≤ 8388608 := by rw [sbits_size, unpack_len]; omega
                have hc64 : Hid ((((unpack l M).drop A).take m).length ≤ 64) := by show _ ≤ _; rw [List.length_take]; omega
                have hee : (V == V) = true := by simp
                go_wp2_with fail
                refine (unpacked_any _ l M _ hx8 hok (by omega)).mono ?_
                rintro e w9 ⟨rfl, hbel9⟩
                have hf9 := hf8.trans (hbel9.mono hf8.size)
                generalize sbits (unpack l M) = S at *
                go_wp2_with fail
                rw [HX.out]
                refine (valueof_any _ hc64.out _).mono ?_
                rintro e w10 ⟨rfl, rfl⟩
                rw [← HV.out]
                go_wp2_with fail
                go_ret
                exact ⟨rfl, hf9⟩
      · have HF : Hid (faultB l N = 4) := if_neg hok
        have e1 : (L, N', E) = (([] : List Int), (0 : Int), (4 : Int)) := by rw [← HR.out]; exact if_pos hok
        have e2 : (V, G) = ((0 : Int), (4 : Int)) := by rw [← HQ.out]; exact if_pos hok
        simp only [Prod.mk.injEq] at e1 e2
        obtain ⟨rfl, rfl, rfl⟩ := e1
        obtain ⟨rfl, rfl⟩ := e2
        clear HQ HR
        rw [HF.out] at t1 ⊢
        go_wp2_with fail
        refine (samebits_any _ _ [] [] 0 0 _ hy6 (bitsV_zero _)).mono ?_
        rintro e w7 ⟨rfl, hbel7⟩
        rw [sameB_self]
        have hf7 := hf6.trans (hbel7.mono hf6.size)
        go_wp2_with fail
        go_ret
        exact ⟨rfl, hf7⟩
end Go.Proofs.Ytkpjgenlonfkmaa.BitsPush
