/-
  The walks of bits.Push and bits.Pull.
-/
import Derived.Test.YtkpjgenlonfkmaaWriter
import Derived.Test.YtkpjgenlonfkmaaReader
import Derived.Test.YtkpjgenlonfkmaaBits5
import Derived.Deep.RegionHeld3
namespace Go.Proofs.Ytkpjgenlonfkmaa.Bits
open Go.RowKit Go.Gh Go.WideShapes
set_option linter.unusedVariables false

open Classical in
noncomputable def pushR (l : List Int) (N v n : Int) : List Int × Int × Int :=
  if ¬ okB l N then ([], 0, 4) else if n < 0 ∨ 64 < n ∨ (n < 64 ∧ ¬ v / 2 ^ n.toNat = 0) then ([], 0, 1) else if 80000 < N + n then ([], 0, 2) else (pack (unpack l N.toNat ++ signs v n.toNat), N + n, 0)
/-- A result (api.Bits, error) in memory of the call's own. -/
def BRes (w : World) (r : List Int × Int × Int) (e : Ending) (w' : World) : Prop :=
  ∃ b, e = .returned (.tuple #[.agg #[b, .int .i64 r.2.1], .int .i64 r.2.2]) ∧ w'.ownsRow w.heap.size 5 1 b r.1.length (r.1.map (Value.int .u8)) ∧ Below w.heap.size w w'
theorem bres_zero {w w' : World} {k : Int} {r : List Int × Int × Int} (hr : r = ([], 0, k)) (h : Below w.heap.size w w') : BRes w r (.returned (.tuple #[.agg #[.slice none 0 0, .int .i64 0], .int .i64 k])) w' := by
  subst hr; exact ⟨_, rfl, World.ownsRow_nil _ _ _ _, h⟩

theorem push_end1 {w2 W w3 : World} {B : Nat} {l : List Int} {v' : Value} {M : Nat} (hown : w3.ownsRow B 5 1 v' l.length (l.map (Value.int .u8))) (hbel : Below B W w3) (hW : W.heap.size = B) (hB : w2.heap.size ≤ B) (h2 : Below w2.heap.size w2 W) (hp : pack (unpack l M) = l) :
    ∃ wb, Value.pointer (some ⟨w3.heap.size, 0, none⟩) = .pointer (some ⟨wb, 0, none⟩) ∧ w2.heap.size ≤ wb ∧ WInv (w3.alloc (.cells #[v', .int .i64 M] 99)) w2.heap.size wb (unpack l M) ∧ Below w2.heap.size w2 (w3.alloc (.cells #[v', .int .i64 M] 99)) := by
  have hsz := hbel.size
  have h3 := h2.trans (hbel.mono hB)
  refine ⟨_, rfl, by omega, ⟨v', ?_, ?_⟩, h3.alloc (by omega) _⟩
  · rw [unpack_len]; exact heap_alloc_new w3 _
  · rw [hp]; exact own_mono (hown.alloc _) hB
theorem push_end2 {w2 w3 : World} {l : List Int} {v' : Value} {M : Nat} {o : Obj} (hown : w3.ownsRow (w2.heap.size + 1) 5 1 v' l.length (l.map (Value.int .u8))) (hbel : Below (w2.heap.size + 1) (w2.alloc o).drew w3)
    (hx : w3.heap[w2.heap.size]? = some (.cells #[.slice none 0 0, .int .i64 0] 99 (0, 0))) (hp : pack (unpack l M) = l) :
    ∃ wb, Value.pointer (some ⟨w2.heap.size, 0, none⟩) = .pointer (some ⟨wb, 0, none⟩) ∧ w2.heap.size ≤ wb ∧ WInv ((w3.setCell ⟨w2.heap.size, 0, none⟩ v').setCell ⟨w2.heap.size, 1, none⟩ (.int .i64 M)) w2.heap.size wb (unpack l M) ∧ Below w2.heap.size w2 ((w3.setCell ⟨w2.heap.size, 0, none⟩ v').setCell ⟨w2.heap.size, 1, none⟩ (.int .i64 M)) := by
  have h3 : Below w2.heap.size w2 w3 := ((Below.refl w2.heap.size w2).alloc (Nat.le_refl _) o).drew.trans (hbel.mono (Nat.le_succ _))
  refine ⟨_, rfl, Nat.le_refl _, ⟨v', ?_, ?_⟩, (h3.setCell (Nat.le_refl _) _).setCell (Nat.le_refl _) _⟩
  · rw [unpack_len]; exact row_setCell 1 (.int .i64 M) (row_setCell 0 v' hx)
  · rw [hp]; exact own_mono (ownsRow_setCell_below (a := ⟨w2.heap.size, 1, none⟩) (ownsRow_setCell_below (a := ⟨w2.heap.size, 0, none⟩) hown (Nat.lt_succ_self _) _) (Nat.lt_succ_self _) _) (Nat.le_succ _)
theorem push_fin {w w5 : World} {B : Nat} {r : List Int × Int × Int} {L : List Int} {N' : Int} {b : Value} (hr : r = (L, N', 0)) (hown : w5.ownsRow B 5 1 b L.length (L.map (Value.int .u8))) (hbel : Below w.heap.size w w5) (hB : w.heap.size + 2 ≤ B) :
    BRes w r (.returned (.tuple #[.agg #[b, .int .i64 N'], .int .i64 0])) ((w5.setCell ⟨w.heap.size + 1, 0, none⟩ b).setCell ⟨w.heap.size + 1, 1, none⟩ (.int .i64 N')) := by
  subst hr
  refine ⟨b, rfl, ?_, (hbel.setCell (p := ⟨w.heap.size + 1, 0, none⟩) (Nat.le_succ _) _).setCell (p := ⟨w.heap.size + 1, 1, none⟩) (Nat.le_succ _) _⟩
  exact own_mono (ownsRow_setCell_below (a := ⟨w.heap.size + 1, 1, none⟩) (ownsRow_setCell_below (a := ⟨w.heap.size + 1, 0, none⟩) hown (show w.heap.size + 1 < B by omega) _) (show w.heap.size + 1 < B by omega) _) (by omega)
set_option maxRecDepth 100000 in
set_option maxHeartbeats 2000000 in
theorem push_any (x : Value) (l : List Int) (N v n : Int) (w : World) (hx : BitsV w x l N) (hv0 : 0 ≤ v) (hv1 : v < 18446744073709551616) (hn0 : -9223372036854775808 ≤ n) (hn1 : n < 9223372036854775808) :
    Calls Try.prog 37 #[x, .int .u64 v, .int .i64 n] w (BRes w (pushR l N v n)) := by
  have hx0 := hx
  obtain ⟨b, len, rfl, hs, hl, hwf, hlen, hN0, hN1⟩ := hx
  obtain ⟨ao, c, rfl, hnc, hc, hll⟩ := hs.shape
  have hll : l.length = len := by simpa using hll
  have HL := Lib.hid hll
  clear hll
  go_enter Try.func37, Try.ntmps37
  go_upto_region 1 with (fail)
  refine wp_abs (fun w1 => Sl w1 1 (.slice ao len c) len (l.map (Value.int .u8)) ∧ w1.heap[w.heap.size]? = some (.cells #[.slice ao len c, .int .i64 N] 56 (0, 0)) ∧ w1.heap[w.heap.size + 1]? = some (.cells #[.slice none 0 0, .int .i64 0] 56 (0, 0)) ∧ Below w.heap.size w w1 ∧ w.heap.size + 2 ≤ w1.heap.size)
    ⟨(hs.alloc _).alloc _, two_first w _ _, two_second w _ _, ((Below.refl _ _).alloc (Nat.le_refl _) _).alloc (by simp) _, by simp⟩ ?_
  rintro w1 ⟨hs1, hb, hr, hbel, hsz⟩
  have c0 : w1.cell? ⟨w.heap.size, 0, none⟩ = some (.slice ao len c) := (row_cell 0 _ hb rfl).1
  have c1 : w1.cell? ⟨w.heap.size, 1, none⟩ = some (.int .i64 N) := (row_cell 1 _ hb rfl).1
  go_wp2_with fail
  refine (check_any _ l N _ ⟨_, len, rfl, hs1, hl, hwf, hlen, hN0, hN1⟩).mono ?_
  rintro e w2 ⟨rfl, hbel2⟩
  have hr2 := (hbel2.block _ (by omega)).trans hr
  have hb2 := (hbel2.block _ (by omega)).trans hb
  have r0 : w2.cell? ⟨w.heap.size + 1, 0, none⟩ = some (.slice none 0 0) := (row_cell 0 _ hr2 rfl).1
  have r1 : w2.cell? ⟨w.heap.size + 1, 1, none⟩ = some (.int .i64 0) := (row_cell 1 _ hr2 rfl).1
  have g0 : w2.frozen? ⟨w.heap.size + 1, 0, none⟩ = false := frozen_of_row w2 _ 0 _ _ hr2
  have g1 : w2.frozen? ⟨w.heap.size + 1, 1, none⟩ = false := frozen_of_row w2 _ 1 _ _ hr2
  have c02 : w2.cell? ⟨w.heap.size, 0, none⟩ = some (.slice ao len c) := (row_cell 0 _ hb2 rfl).1
  have c12 : w2.cell? ⟨w.heap.size, 1, none⟩ = some (.int .i64 N) := (row_cell 1 _ hb2 rfl).1
  have hfin := hbel.trans (hbel2.mono hbel.size)
  have hs2 := hs1.below hbel2
  have hsz2 : w.heap.size + 2 ≤ w2.heap.size := Nat.le_trans hsz hbel2.size
  clear c0 c1 hbel2 hb hr hs1
  by_cases hok : okB l N
  · have HF : Hid (faultB l N = 0) := if_pos hok
    rw [HF.out]
    have hN8 : 0 ≤ N ∧ N ≤ 8 * len := by have := hok.1; have := hok.2.1; have := HL.out; omega
    obtain ⟨M, rfl⟩ := Int.eq_ofNat_of_zero_le hN8.1
    by_cases hbad : n < 0 ∨ 64 < n ∨ (n < 64 ∧ ¬ v / 2 ^ n.toNat = 0)
    · have HR : Hid (pushR l M v n = ([], 0, 1)) := by show _ = _; unfold pushR; rw [if_neg (not_not_intro hok), if_pos hbad]
      by_cases h1 : n < 0
      · clear hbad
        go_wp2_with fail
        refine bodyPost_ret (v := .tuple #[.agg #[.slice none 0 0, .int .i64 0], .int .i64 1]) (by simp [results, Try.results37, go_sem, r0, r1]) rfl (bres_zero HR.out ?_)
        exact (hfin.setCell (p := ⟨w.heap.size + 1, 0, none⟩) (Nat.le_succ _) _).setCell (p := ⟨w.heap.size + 1, 1, none⟩) (Nat.le_succ _) _
      · by_cases h2 : 64 < n
        · clear hbad
          go_wp2_with fail
          refine bodyPost_ret (v := .tuple #[.agg #[.slice none 0 0, .int .i64 0], .int .i64 1]) (by simp [results, Try.results37, go_sem, r0, r1]) rfl (bres_zero HR.out ?_)
          exact (hfin.setCell (p := ⟨w.heap.size + 1, 0, none⟩) (Nat.le_succ _) _).setCell (p := ⟨w.heap.size + 1, 1, none⟩) (Nat.le_succ _) _
        · obtain ⟨m, rfl⟩ := Int.eq_ofNat_of_zero_le (show 0 ≤ n by omega)
          have h3 : m < 64 := by omega
          have h4 : ¬ v / 2 ^ m = 0 := by
            intro h
            rcases hbad with h' | h' | ⟨_, h'⟩
            · omega
            · omega
            · rw [Int.toNat_natCast] at h'; exact h' h
          have h5 : (v / 2 ^ m != 0) = true := by simpa using h4
          clear hbad hn0 hn1
          go_wp2_with fail
          refine bodyPost_ret (v := .tuple #[.agg #[.slice none 0 0, .int .i64 0], .int .i64 1]) (by simp [results, Try.results37, go_sem, r0, r1]) rfl (bres_zero HR.out ?_)
          exact (hfin.setCell (p := ⟨w.heap.size + 1, 0, none⟩) (Nat.le_succ _) _).setCell (p := ⟨w.heap.size + 1, 1, none⟩) (Nat.le_succ _) _
    · have hn3 : 0 ≤ n ∧ n ≤ 64 := by omega
      obtain ⟨m, rfl⟩ := Int.eq_ofNat_of_zero_le hn3.1
      clear hn0 hn1
      by_cases hbig : 80000 < (M : Int) + m
      · have HR : Hid (pushR l M v m = ([], 0, 2)) := by show _ = _; unfold pushR; rw [if_neg (not_not_intro hok), if_neg hbad, if_pos hbig]
        by_cases h64 : m < 64
        · have h5 : (v / 2 ^ m != 0) = false := by
            have : v / 2 ^ m = 0 := by
              by_cases h : v / 2 ^ m = 0
              · exact h
              · exact absurd (Or.inr (Or.inr ⟨by omega, by rw [Int.toNat_natCast]; exact h⟩)) hbad
            simp [this]
          clear hbad
          go_wp2_with fail
          refine bodyPost_ret (v := .tuple #[.agg #[.slice none 0 0, .int .i64 0], .int .i64 2]) (by simp [results, Try.results37, go_sem, r0, r1]) rfl (bres_zero HR.out ?_)
          exact (hfin.setCell (p := ⟨w.heap.size + 1, 0, none⟩) (Nat.le_succ _) _).setCell (p := ⟨w.heap.size + 1, 1, none⟩) (Nat.le_succ _) _
        · clear hbad
          go_wp2_with fail
          refine bodyPost_ret (v := .tuple #[.agg #[.slice none 0 0, .int .i64 0], .int .i64 2]) (by simp [results, Try.results37, go_sem, r0, r1]) rfl (bres_zero HR.out ?_)
          exact (hfin.setCell (p := ⟨w.heap.size + 1, 0, none⟩) (Nat.le_succ _) _).setCell (p := ⟨w.heap.size + 1, 1, none⟩) (Nat.le_succ _) _
      · have HR : Hid (pushR l M v m = (pack (unpack l M ++ signs v m), (M : Int) + m, 0)) := by show _ = _; unfold pushR; rw [if_neg (not_not_intro hok), if_neg hbad, if_neg hbig]; simp
        have hml : (m : Int) ≤ 64 := by omega
        have hpu := Lib.hid (pack_unpack l M hl hok)
        have hul := unpack_len l M
        have d6 : ¬ 80000 < (M : Int) + m := hbig
        have h5 : m < 64 → (v / 2 ^ m != 0) = false := by
          intro h64
          have : v / 2 ^ m = 0 := by
            by_cases h : v / 2 ^ m = 0
            · exact h
            · exact absurd (Or.inr (Or.inr ⟨by omega, by rw [Int.toNat_natCast]; exact h⟩)) hbad
          simp [this]
        clear hbad hbig
        have hlt2 : w.heap.size < w2.heap.size := by omega
        go_upto_region 4 with (fail)
        go_cut [16] (fun c wx => c = .bool false ∧ w2 = wx)
        case first =>
          by_cases h64 : m < 64
          · have h6 := h5 h64
            go_wp2
            go_meet
            exact ⟨congrArg Value.bool (by simp; omega), rfl⟩
          · clear h5
            go_wp2
            go_meet
            exact ⟨congrArg Value.bool (by simp; omega), rfl⟩
        case rest =>
          obtain ⟨rfl, rfl⟩ := hcut
          clear h5
          go_upto_region 8 with (fail)
          go_cut [9] (fun p wx => ∃ wb, p = .pointer (some ⟨wb, 0, none⟩) ∧ w2.heap.size ≤ wb ∧ WInv wx w2.heap.size wb (unpack l M) ∧ Below w2.heap.size w2 wx)
          case first =>
            go_region_law (first
              | (go_simp; go_at_call 69; refine (clone_any _ len l _ (by first | exact hs2.below ((Below.refl _ _).drew) | exact (hs2.alloc _).below ((Below.refl _ _).drew)) hlen).mono ?_; rintro e w3 ⟨v', rfl, hown, hbel3⟩; obtain ⟨ao', c', rfl, hc1', hc2', hc3'⟩ := (own_sl hown).shape; have q1 : w3.cell? ⟨w.heap.size, 1, none⟩ = some (.int .i64 M) := (hbel3.cell (p := ⟨w.heap.size, 1, none⟩) (by simp; omega)).trans (by first | exact c12 | exact ((((Below.refl w2.heap.size w2).alloc (Nat.le_refl _) _).drew).cell (p := ⟨w.heap.size, 1, none⟩) hlt2).trans c12); have q7 : w.heap.size < w3.heap.size := (by have := hbel3.size; simp at this; omega); try (have q2 : w3.heap[w2.heap.size]? = some (.cells #[.slice none 0 0, .int .i64 0] 99 (0, 0)) := (hbel3.block w2.heap.size (by simp)).trans (heap_alloc_new w2 _); have q3 : w3.cell? ⟨w2.heap.size, 0, none⟩ = some (.slice none 0 0) := (row_cell 0 _ q2 rfl).1; have q4 : w3.cell? ⟨w2.heap.size, 1, none⟩ = some (.int .i64 0) := (row_cell 1 _ q2 rfl).1; have q5 : w3.frozen? ⟨w2.heap.size, 0, none⟩ = false := (row_cell 0 _ q2 rfl).2; have q6 : w3.frozen? ⟨w2.heap.size, 1, none⟩ = false := (row_cell 1 _ q2 rfl).2)))
            all_goals (go_wp2_with fail; go_meet)
            all_goals first
              | exact push_end1 (by rw [HL.out]; exact hown) hbel3 rfl (Nat.le_refl _) ((Below.refl _ _).drew) hpu.out
              | exact push_end2 (by rw [HL.out]; simpa using hown) (by simpa using hbel3) q2 hpu.out
          case rest =>
            obtain ⟨wb, rfl, hwb, hinv, hbel4⟩ := hcut
            go_wp2_with fail
            refine (wput_any v m (unpack l M) w2.heap.size wb _ hv0 hv1 (by omega) (by rw [hul]; omega) hwb hinv).mono ?_
            rintro e w5 ⟨rfl, ⟨v5, hx5, hown5⟩, hbel5⟩
            have hb5 := hbel4.trans hbel5
            have hr5 := (hb5.block (w.heap.size + 1) (by omega)).trans hr2
            have R0 : w5.cell? ⟨w.heap.size + 1, 0, none⟩ = some (.slice none 0 0) := (row_cell 0 _ hr5 rfl).1
            have R1 : w5.cell? ⟨w.heap.size + 1, 1, none⟩ = some (.int .i64 0) := (row_cell 1 _ hr5 rfl).1
            have G0 : w5.frozen? ⟨w.heap.size + 1, 0, none⟩ = false := frozen_of_row w5 _ 0 _ _ hr5
            have G1 : w5.frozen? ⟨w.heap.size + 1, 1, none⟩ = false := frozen_of_row w5 _ 1 _ _ hr5
            have hlen5 : ((unpack l M ++ signs v m).length : Int) = (M : Int) + m := by simp [unpack_len, signs_len]
            rw [hlen5] at hx5
            have X0 : w5.cell? ⟨wb, 0, none⟩ = some v5 := (row_cell 0 _ hx5 rfl).1
            have X1 : w5.cell? ⟨wb, 1, none⟩ = some (.int .i64 ((M : Int) + m)) := (row_cell 1 _ hx5 rfl).1
            obtain ⟨ao5, c5, rfl, hc51, hc52, hc53⟩ := (own_sl hown5).shape
            have hfin5 := hfin.trans (hb5.mono hfin.size)
            have HO5 := Lib.hid hown5
            clear hown5 hlen5 hbel5 hbel4 hinv r0 r1 g0 g1 c02 c12
            go_wp2_with fail
            refine bodyPost_ret (v := .tuple #[.agg #[.slice ao5 (pack (unpack l M ++ signs v m)).length c5, .int .i64 ((M : Int) + m)], .int .i64 0]) (by simp [results, Try.results37, go_sem, R0, R1]) rfl ?_
            refine push_fin HR.out HO5.out hfin5 (by omega)
  · have HF : Hid (faultB l N = 4) := if_neg hok
    have HR : Hid (pushR l N v n = ([], 0, 4)) := if_pos hok
    rw [HF.out]
    go_wp2_with fail
    refine bodyPost_ret (v := .tuple #[.agg #[.slice none 0 0, .int .i64 0], .int .i64 4]) (by simp [results, Try.results37, go_sem, r0, r1]) rfl (bres_zero HR.out ?_)
    exact (hfin.setCell (p := ⟨w.heap.size + 1, 0, none⟩) (Nat.le_succ _) _).setCell (p := ⟨w.heap.size + 1, 1, none⟩) (Nat.le_succ _) _
end Go.Proofs.Ytkpjgenlonfkmaa.Bits
