/-
  The walk of delta.change.
-/
import Derived.Test.YtmbmognhbljliaaDoorDO1
import Derived.Test.YtmbmognhbljliaaDoorReader
import Derived.Deep.CutBlock
namespace Go.Proofs.YtmbmognhbljliaaDoor.Delta
open Go.RowKit Go.Gh Go.Proofs.YtmbmognhbljliaaDoor.Bits
set_option linter.unusedVariables false
theorem rres_tk {l : List Int} {N a n : Nat} {sh : Bool} {V : Int} {a2 : Nat} {sh2 : Bool} (h : RRes l N a n sh V a2 sh2) (ha : a ≤ N) : tk n ((unpack l N).drop a) sh = (V, (unpack l N).drop a2, sh2) ∧ a2 ≤ N := by
  unfold RRes at h
  have hl : ((unpack l N).drop a).length = N - a := by rw [List.length_drop, unpack_len]
  unfold tk
  split at h
  · obtain ⟨rfl, rfl, rfl⟩ := h
    rw [if_pos (by omega), List.drop_drop]
    exact ⟨rfl, by omega⟩
  · obtain ⟨rfl, rfl, rfl⟩ := h
    rw [if_neg (by omega), List.drop_of_length_le (by rw [unpack_len]; exact Nat.le_refl _)]
    exact ⟨rfl, Nat.le_refl _⟩
theorem Table.grown {w w' : World} {rb : Nat} (h : Table w) (hg : w.grownBy w' (some rb)) (hr : 0 < rb) : Table w' := by
  obtain ⟨h0, ⟨a0, a1, a2⟩, ⟨b0, b1, b2⟩, ⟨c0, c1, c2⟩, ⟨d0, d1, d2⟩, e0, e1, e2⟩ := h
  have t : ∀ i u, w.cell? ⟨0, i, none⟩ = some u → w'.cell? ⟨0, i, none⟩ = some u := fun i u hu => hg.cell hu (by simp; omega)
  exact ⟨Nat.lt_of_lt_of_le h0 hg.size, ⟨t _ _ a0, t _ _ a1, t _ _ a2⟩, ⟨t _ _ b0, t _ _ b1, t _ _ b2⟩, ⟨t _ _ c0, t _ _ c1, t _ _ c2⟩, ⟨t _ _ d0, t _ _ d1, t _ _ d2⟩, t _ _ e0, t _ _ e1, t _ _ e2⟩
/-- A reader that stands at the rest r. -/
structure RAt (w : World) (rb : Nat) (bs : Value) (len : Nat) (l : List Int) (N : Nat) (r : List Bool) (sh : Bool) (w' : World) : Prop where
  ex : ∃ a, a ≤ N ∧ RInv w' rb bs N a sh ∧ (unpack l N).drop a = r
  gr : w.grownBy w' (some rb)
theorem take_at {w wr : World} {bs : Value} {len : Nat} {l : List Int} {N rb : Nat} {r : List Bool} {sh : Bool} (n : Nat) (hs : Sl w 1 bs len (l.map (Value.int .u8))) (hl : ∀ z ∈ l, (Lit.int .u8 z).wf = true) (hlen : len ≤ 140737488355328) (hN : N ≤ 8 * len) (hn : n ≤ 64) (hne : 0 < len → bs.ownBlock ≠ some rb) (h : RAt w rb bs len l N r sh wr) :
    Calls Tryd.prog 31 #[.pointer (some ⟨rb, 0, none⟩), .int .i64 n] wr fun e w' => e = .returned (.int .u64 (tk n r sh).1) ∧ RAt w rb bs len l N (tk n r sh).2.1 (tk n r sh).2.2 w' ∧ wr.grownBy w' (some rb) := by
  obtain ⟨⟨a, ha, hi, hr⟩, hg⟩ := h
  refine (rtake_any bs len l N a n rb sh wr (Sl.grown hs hg hne) hl hlen hN ha hn hi hne).mono ?_
  rintro e w' ⟨V, a2, sh2, rfl, hi2, hg2, hres⟩
  obtain ⟨h1, h2⟩ := rres_tk hres ha
  rw [hr] at h1
  rw [h1]
  exact ⟨rfl, ⟨⟨a2, h2, hi2, rfl⟩, grown_trans hg hg2⟩, hg2⟩
set_option maxHeartbeats 2000000 in
set_option maxRecDepth 100000 in
theorem change_any {w wr : World} {bs : Value} {len : Nat} {l : List Int} {N rb : Nat} {r : List Bool} {sh : Bool} (hs : Sl w 1 bs len (l.map (Value.int .u8))) (hl : ∀ z ∈ l, (Lit.int .u8 z).wf = true) (hlen : len ≤ 140737488355328) (hN : N ≤ 8 * len) (hne : 0 < len → bs.ownBlock ≠ some rb) (h : RAt w rb bs len l N r sh wr) (hT : Table w) (hrb : 0 < rb) :
    Calls Tryd.prog 32 #[.pointer (some ⟨rb, 0, none⟩)] wr fun e w' => e = .returned (.int .i64 (chI r sh).1) ∧ RAt w rb bs len l N (chI r sh).2.1 (chI r sh).2.2 w' ∧ wr.grownBy w' (some rb) := by
  have HS := Lib.hid hs
  have HLF := Lib.hid hl
  have HNE := Lib.hid hne
  have HT := Lib.hid hT
  clear hs hl hne hT
  go_enter Tryd.func32, Tryd.ntmps32
  go_upto_block 0 with fail
  go_cut [3] (fun x wx => ∃ (k : Nat) (r2 : List Bool) (sh2 : Bool), k ≤ 4 ∧ x = .int .i64 k ∧ Hid (kI 4 r sh = (k, r2, sh2)) ∧ Hid (RAt w rb bs len l N r2 sh2 wx) ∧ Hid (wr.grownBy wx (some rb)))
  case first =>
    go_wp2_with fail
    go_loopw [3] (fun x wx => ∃ (k f : Nat) (r2 : List Bool) (sh2 : Bool), k + f = 4 ∧ x = .int .i64 k ∧ Hid (kI 4 r sh = ((kI f r2 sh2).1 + k, (kI f r2 sh2).2)) ∧ Hid (RAt w rb bs len l N r2 sh2 wx) ∧ Hid (wr.grownBy wx (some rb))) (fun x _ => 4 - (intOf x).toNat)
    case atStart => exact ⟨0, 4, r, sh, rfl, rfl, rfl, h, World.grownBy.refl _ _⟩
    case round =>
      obtain ⟨k, f, r2, sh2, hkf, rfl, HK, HR, HG⟩ := hrel
      cases f with
      | zero =>
        obtain rfl : k = 4 := by omega
        go_wp2_with fail
        go_meet
        exact ⟨4, r2, sh2, by omega, rfl, by show _ = _; rw [HK.out]; simp [kI], HR, HG⟩
      | succ f =>
        have hk4 : k < 4 := by omega
        have HT1 := take_at 1 HS.out HLF.out hlen hN (by decide) HNE.out HR.out
        obtain ⟨T, hT⟩ : ∃ T, tk 1 r2 sh2 = T := ⟨_, rfl⟩
        obtain ⟨V, r3, sh3⟩ := T
        rw [hT] at HT1
        have HTA := Lib.hid HT1
        clear HT1
        by_cases hV : V = 1
        · subst hV
          have HK2 : Hid (kI 4 r sh = ((kI f r3 sh3).1 + (k + 1), (kI f r3 sh3).2)) := Lib.hid (by rw [HK.out, kI, hT, if_pos rfl]; simp [Nat.add_assoc, Nat.add_comm, Nat.add_left_comm])
          clear hT HK HR
          go_wp2_with fail
          refine HTA.out.mono ?_
          rintro e w3 ⟨rfl, hr3, hg3⟩
          have HG2 := Lib.hid (grown_trans HG.out hg3)
          have HR3 := Lib.hid hr3
          go_wp2_with fail
          go_roundw
          case rel => exact ⟨k + 1, f, r3, sh3, by omega, by go_num, HK2, HR3, HG2⟩
          case measure => simp [intOf]; omega
        · have HK2 : Hid (kI 4 r sh = (k, r3, sh3)) := Lib.hid (by rw [HK.out, kI, hT, if_neg hV]; simp)
          have t1 : (V == 1) = false := beq_eq_false_iff_ne.2 hV
          clear hT HK HR hV
          go_wp2_with fail
          refine HTA.out.mono ?_
          rintro e w3 ⟨rfl, hr3, hg3⟩
          have HG2 := Lib.hid (grown_trans HG.out hg3)
          have HR3 := Lib.hid hr3
          go_wp2_with fail
          go_meet
          exact ⟨k, r3, sh3, by omega, rfl, HK2, HR3, HG2⟩
  case rest =>
    obtain ⟨k, r2, sh2, hk, rfl, HK, HR, HG⟩ := hcut
    obtain ⟨ht0, ⟨ta0, ta1, ta2⟩, ⟨tb0, tb1, tb2⟩, ⟨tc0, tc1, tc2⟩, ⟨td0, td1, td2⟩, te0, te1, te2⟩ := HT.out.grown HR.out.gr hrb
    clear ta0 ta1 tb0 tb1 tc0 tc1 td0 td1 te0 te1
    have hk5 : k = 0 ∨ k = 1 ∨ k = 2 ∨ k = 3 ∨ k = 4 := by omega
    rcases hk5 with rfl | rfl | rfl | rfl | rfl
    · have HC : Hid (chI r sh = (0, r2, sh2)) := Lib.hid (by unfold chI; rw [HK.out, if_pos rfl])
      go_wp2_with fail
      go_ret
      rw [HC.out]
      exact ⟨rfl, HR.out, HG.out⟩
    · have HC : Hid (chI r sh = (sgn 7 (tk 7 r2 sh2).1, (tk 7 r2 sh2).2)) := Lib.hid (by unfold chI; rw [HK.out, if_neg (by simp)]; rfl)
      have HT1 := take_at 7 HS.out HLF.out hlen hN (by decide) HNE.out HR.out
      obtain ⟨T, hT⟩ : ∃ T, tk 7 r2 sh2 = T := ⟨_, rfl⟩
      obtain ⟨V, r3, sh3⟩ := T
      rw [hT] at HT1 HC
      have HTA := Lib.hid HT1
      clear HT1 hT HR HK
      go_wp2_with fail
      refine HTA.out.mono ?_
      rintro e w3 ⟨rfl, hr3, hg3⟩
      have HG2 := Lib.hid (grown_trans HG.out hg3)
      have HR3 := Lib.hid hr3
      go_wp2_with fail
      go_ret
      rw [HC.out]
      exact ⟨ret_int (by show _ = wI (wU (V * 144115188075855872)) / 144115188075855872; unfold wI wU; first | rfl | (rw [IntWalk.i64_left]; done) | (rw [Int.mul_one, Int.ediv_one, IntWalk.i64_left]; done) | (rw [Int.mul_one, Int.ediv_one]; rfl)), HR3.out, HG2.out⟩
    · have HC : Hid (chI r sh = (sgn 9 (tk 9 r2 sh2).1, (tk 9 r2 sh2).2)) := Lib.hid (by unfold chI; rw [HK.out, if_neg (by simp)]; rfl)
      have HT1 := take_at 9 HS.out HLF.out hlen hN (by decide) HNE.out HR.out
      obtain ⟨T, hT⟩ : ∃ T, tk 9 r2 sh2 = T := ⟨_, rfl⟩
      obtain ⟨V, r3, sh3⟩ := T
      rw [hT] at HT1 HC
      have HTA := Lib.hid HT1
      clear HT1 hT HR HK
      go_wp2_with fail
      refine HTA.out.mono ?_
      rintro e w3 ⟨rfl, hr3, hg3⟩
      have HG2 := Lib.hid (grown_trans HG.out hg3)
      have HR3 := Lib.hid hr3
      go_wp2_with fail
      go_ret
      rw [HC.out]
      exact ⟨ret_int (by show _ = wI (wU (V * 36028797018963968)) / 36028797018963968; unfold wI wU; first | rfl | (rw [IntWalk.i64_left]; done) | (rw [Int.mul_one, Int.ediv_one, IntWalk.i64_left]; done) | (rw [Int.mul_one, Int.ediv_one]; rfl)), HR3.out, HG2.out⟩
    · have HC : Hid (chI r sh = (sgn 12 (tk 12 r2 sh2).1, (tk 12 r2 sh2).2)) := Lib.hid (by unfold chI; rw [HK.out, if_neg (by simp)]; rfl)
      have HT1 := take_at 12 HS.out HLF.out hlen hN (by decide) HNE.out HR.out
      obtain ⟨T, hT⟩ : ∃ T, tk 12 r2 sh2 = T := ⟨_, rfl⟩
      obtain ⟨V, r3, sh3⟩ := T
      rw [hT] at HT1 HC
      have HTA := Lib.hid HT1
      clear HT1 hT HR HK
      go_wp2_with fail
      refine HTA.out.mono ?_
      rintro e w3 ⟨rfl, hr3, hg3⟩
      have HG2 := Lib.hid (grown_trans HG.out hg3)
      have HR3 := Lib.hid hr3
      go_wp2_with fail
      go_ret
      rw [HC.out]
      exact ⟨ret_int (by show _ = wI (wU (V * 4503599627370496)) / 4503599627370496; unfold wI wU; first | rfl | (rw [IntWalk.i64_left]; done) | (rw [Int.mul_one, Int.ediv_one, IntWalk.i64_left]; done) | (rw [Int.mul_one, Int.ediv_one]; rfl)), HR3.out, HG2.out⟩
    · have HC : Hid (chI r sh = (sgn 64 (tk 64 r2 sh2).1, (tk 64 r2 sh2).2)) := Lib.hid (by unfold chI; rw [HK.out, if_neg (by simp)]; rfl)
      have HT1 := take_at 64 HS.out HLF.out hlen hN (by decide) HNE.out HR.out
      obtain ⟨T, hT⟩ : ∃ T, tk 64 r2 sh2 = T := ⟨_, rfl⟩
      obtain ⟨V, r3, sh3⟩ := T
      rw [hT] at HT1 HC
      have HTA := Lib.hid HT1
      clear HT1 hT HR HK
      go_wp2_with fail
      refine HTA.out.mono ?_
      rintro e w3 ⟨rfl, hr3, hg3⟩
      have HG2 := Lib.hid (grown_trans HG.out hg3)
      have HR3 := Lib.hid hr3
      go_wp2_with fail
      go_ret
      rw [HC.out]
      exact ⟨ret_int (by show _ = wI (wU (V * 1)) / 1; unfold wI wU; first | rfl | (rw [IntWalk.i64_left]; done) | (rw [Int.mul_one, Int.ediv_one, IntWalk.i64_left]; done) | (rw [Int.mul_one, Int.ediv_one]; rfl)), HR3.out, HG2.out⟩
end Go.Proofs.YtmbmognhbljliaaDoor.Delta
