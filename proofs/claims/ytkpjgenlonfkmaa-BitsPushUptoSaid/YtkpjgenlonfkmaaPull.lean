/-
  The walk of bits.Pull.
-/
import Derived.Test.YtkpjgenlonfkmaaReader
import Derived.Test.YtkpjgenlonfkmaaBits5
namespace Go.Proofs.Ytkpjgenlonfkmaa.Bits
open Go.RowKit Go.Gh Go.WideShapes
set_option linter.unusedVariables false

open Classical in
noncomputable def pullR (l : List Int) (N at' n : Int) : Int × Int :=
  if ¬ okB l N then (0, 4) else if n < 0 ∨ 64 < n ∨ at' < 0 then (0, 1) else if N - n < at' then (0, 3) else (valF 0 (((unpack l N.toNat).drop at'.toNat).take n.toNat), 0)
def UE (r : Int × Int) : Ending := .returned (.tuple #[.int .u64 r.1, .int .i64 r.2])
theorem ue_eq {r : Int × Int} {a b : Int} (h : r = (a, b)) : Ending.returned (.tuple #[.int .u64 a, .int .i64 b]) = UE r := by subst h; rfl

set_option maxRecDepth 100000 in
set_option maxHeartbeats 2000000 in
theorem pull_any (x : Value) (l : List Int) (N at' n : Int) (w : World) (hx : BitsV w x l N) (ha0 : -9223372036854775808 ≤ at') (ha1 : at' < 9223372036854775808) (hn0 : -9223372036854775808 ≤ n) (hn1 : n < 9223372036854775808) :
    Calls Try.prog 38 #[x, .int .i64 at', .int .i64 n] w fun e w' => e = UE (pullR l N at' n) ∧ Below w.heap.size w w' := by
  have hx0 := hx
  obtain ⟨b, len, rfl, hs, hl, hwf, hlen, hN0, hN1⟩ := hx
  obtain ⟨ao, c, rfl, hnc, hc, hll⟩ := hs.shape
  have hll : l.length = len := by simpa using hll
  have HL := Lib.hid hll
  clear hll
  go_enter Try.func38, Try.ntmps38
  go_upto_region 1 with (fail)
  refine wp_abs (fun w1 => Sl w1 1 (.slice ao len c) len (l.map (Value.int .u8)) ∧ w1.heap[w.heap.size]? = some (.cells #[.slice ao len c, .int .i64 N] 56 (0, 0)) ∧ Below w.heap.size w w1 ∧ w.heap.size + 1 ≤ w1.heap.size)
    ⟨hs.alloc _, heap_alloc_new w _, (Below.refl _ _).alloc (Nat.le_refl _) _, by simp⟩ ?_
  rintro w1 ⟨hs1, hb, hbel, hsz⟩
  have c0 : w1.cell? ⟨w.heap.size, 0, none⟩ = some (.slice ao len c) := (row_cell 0 _ hb rfl).1
  have c1 : w1.cell? ⟨w.heap.size, 1, none⟩ = some (.int .i64 N) := (row_cell 1 _ hb rfl).1
  go_wp2_with fail
  refine (check_any _ l N _ ⟨_, len, rfl, hs1, hl, hwf, hlen, hN0, hN1⟩).mono ?_
  rintro e w2 ⟨rfl, hbel2⟩
  have hb2 := (hbel2.block _ (by omega)).trans hb
  have c02 : w2.cell? ⟨w.heap.size, 0, none⟩ = some (.slice ao len c) := (row_cell 0 _ hb2 rfl).1
  have c12 : w2.cell? ⟨w.heap.size, 1, none⟩ = some (.int .i64 N) := (row_cell 1 _ hb2 rfl).1
  have hfin := hbel.trans (hbel2.mono hbel.size)
  have hs2 := hs1.below hbel2
  have hsz2 : w.heap.size + 1 ≤ w2.heap.size := Nat.le_trans hsz hbel2.size
  clear c0 c1 hbel2 hb hs1 hbel
  by_cases hok : okB l N
  · have HF : Hid (faultB l N = 0) := if_pos hok
    rw [HF.out]
    have hN8 : 0 ≤ N ∧ N ≤ 8 * len := by have := hok.1; have := hok.2.1; have := HL.out; omega
    obtain ⟨M, rfl⟩ := Int.eq_ofNat_of_zero_le hN8.1
    by_cases hbad : n < 0 ∨ 64 < n ∨ at' < 0
    · have HR : Hid (pullR l M at' n = (0, 1)) := by show _ = _; unfold pullR; rw [if_neg (not_not_intro hok), if_pos hbad]
      by_cases h1 : n < 0
      · clear hbad
        go_wp2_with fail
        go_ret2
        exact ⟨ue_eq HR.out, hfin⟩
      · by_cases h2 : 64 < n
        · clear hbad
          go_wp2_with fail
          go_ret2
          exact ⟨ue_eq HR.out, hfin⟩
        · have h3 : at' < 0 := by omega
          clear hbad
          go_wp2_with fail
          go_ret2
          exact ⟨ue_eq HR.out, hfin⟩
    · obtain ⟨m, rfl⟩ := Int.eq_ofNat_of_zero_le (show 0 ≤ n by omega)
      obtain ⟨A, rfl⟩ := Int.eq_ofNat_of_zero_le (show 0 ≤ at' by omega)
      have hm64 : m ≤ 64 := by omega
      by_cases hshort : (M : Int) - m < A
      · have HR : Hid (pullR l M A m = (0, 3)) := by show _ = _; unfold pullR; rw [if_neg (not_not_intro hok), if_neg hbad, if_pos hshort]
        clear hbad ha0 ha1 hn0 hn1
        go_wp2_with fail
        go_ret2
        exact ⟨ue_eq HR.out, hfin⟩
      · have HR : Hid (pullR l M A m = (valF 0 (((unpack l M).drop A).take m), 0)) := by show _ = _; unfold pullR; rw [if_neg (not_not_intro hok), if_neg hbad, if_neg hshort]; simp
        clear hbad ha0 ha1 hn0 hn1
        go_wp2_with fail
        have hag : A + m ≤ M := by omega
        refine (rtake_any (.slice ao len c) len l M A m w2.heap.size false _ (hs2.alloc _) hwf hlen (by omega) (by omega) hm64 (heap_alloc_new w2 _) (sl_old hs2 (by decide))).mono ?_
        rintro e w3 ⟨V, at2, sh2, rfl, _, hg, hres⟩
        unfold RRes at hres
        rw [if_pos hag] at hres
        have HV : Hid (pullR l M A m = (V, 0)) := by show _ = _; rw [HR.out, hres.1]
        have hfin3 := hfin.trans ((((Below.refl w2.heap.size w2).alloc (Nat.le_refl _) _).grown hg (by simp) (fun k hk => by simp at hk; omega)).mono hfin.size)
        clear hres hg HR
        go_wp2_with fail
        go_ret2
        exact ⟨ue_eq HV.out, hfin3⟩
  · have HF : Hid (faultB l N = 4) := if_neg hok
    have HR : Hid (pullR l N at' n = (0, 4)) := if_pos hok
    rw [HF.out]
    go_wp2_with fail
    go_ret2
    exact ⟨ue_eq HR.out, hfin⟩
end Go.Proofs.Ytkpjgenlonfkmaa.Bits
