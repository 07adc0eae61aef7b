/-
  The walk of xor.turn; slices.Equal at []uint64.
-/
import Derived.Test.YtmbmognhbljliaaDoorXOLaw
import Derived.Test.YtmbmognhbljliaaDoorXor4
import Derived.Test.YtmbmognhbljliaaDoorDO3
import Derived.Deep.RegionHeld3
namespace Go.Proofs.YtmbmognhbljliaaDoor.Xor
open Go.RowKit Go.Gh Go.Proofs.YtmbmognhbljliaaDoor.Bits Go.Proofs.YtmbmognhbljliaaDoor.Delta
set_option linter.unusedVariables false
/-- Of the old blocks at most two have changed. -/
def Two (w w' : World) (a b : Nat) : Prop := w.heap.size ≤ w'.heap.size ∧ ∀ k, k < w.heap.size → k ≠ a → k ≠ b → w'.heap[k]? = w.heap[k]?
theorem Two.refl (w : World) (a b : Nat) : Two w w a b := ⟨Nat.le_refl _, fun _ _ _ _ => rfl⟩
theorem Two.trans {w w1 w2 : World} {a b : Nat} (h : Two w w1 a b) (k : Two w1 w2 a b) : Two w w2 a b := ⟨Nat.le_trans h.1 k.1, fun i hi h1 h2 => (k.2 i (Nat.lt_of_lt_of_le hi h.1) h1 h2).trans (h.2 i hi h1 h2)⟩
theorem Two.one {w w' : World} {a b : Nat} (h : w.grownBy w' (some a)) : Two w w' a b := ⟨h.size, fun k hk h1 _ => h.block k hk (by simp; omega)⟩
theorem Two.two {w w' : World} {a b : Nat} (h : w.grownBy w' (some b)) : Two w w' a b := ⟨h.size, fun k hk _ h2 => h.block k hk (by simp; omega)⟩
theorem Two.own {w w' : World} {a b B : Nat} {e : TypeId} {size n : Nat} {v : Value} {xs : List Value} (h : Two w w' a b) (ho : w.ownsRow B e size v n xs) (ha : a < B) (hb : b < B) : w'.ownsRow B e size v n xs := by
  obtain ⟨h1, h2⟩ := ho
  refine ⟨h1, ?_⟩
  rcases h2 with h2 | ⟨g, cap, cur, ha', hb', hc, hd⟩
  · exact Or.inl h2
  · exact Or.inr ⟨g, cap, cur, ha', hb', (h.2 g (Array.getElem?_eq_some_iff.1 hc).1 (by omega) (by omega)).trans hc, hd⟩
/-- A reader and a window that stand at s. -/
structure WdAt (w : World) (rb wb : Nat) (bs : Value) (len : Nat) (l : List Int) (N : Nat) (s : Rd) (wx : World) : Prop where
  rd : RAt w rb bs len l N s.r s.sh wx
  win : wx.heap[wb]? = some (.cells #[.bool s.is, .int .i64 s.ld, .int .i64 s.tl] 61 (0, 0))
def WB (s : Rd) : Prop := 0 ≤ s.ld ∧ s.ld ≤ 63 ∧ 0 ≤ 64 - s.ld - s.tl ∧ 64 - s.ld - s.tl ≤ 64
theorem WdAt.take {w wx wy : World} {rb wb : Nat} {bs : Value} {len : Nat} {l : List Int} {N : Nat} {s : Rd} {r : List Bool} {sh : Bool} (h : WdAt w rb wb bs len l N s wx) (hne : rb ≠ wb) (hr : RAt w rb bs len l N r sh wy) (hg : wx.grownBy wy (some rb)) : WdAt w rb wb bs len l N { s with r := r, sh := sh } wy :=
  ⟨hr, (hg.block wb (Array.getElem?_eq_some_iff.1 h.win).1 (by simp; omega)).trans h.win⟩
theorem rat_short {w wx : World} {rb : Nat} {bs : Value} {len : Nat} {l : List Int} {N : Nat} {r : List Bool} {sh : Bool} (h : RAt w rb bs len l N r sh wx) : RAt w rb bs len l N r true (wx.setCell ⟨rb, 3, none⟩ (.bool true)) ∧ wx.frozen? ⟨rb, 3, none⟩ = false := by
  obtain ⟨⟨a, ha, hi, hr⟩, hg⟩ := h
  exact ⟨⟨⟨a, ha, row_setCell 3 (.bool true) hi, hr⟩, grown_setCell hg _ _⟩, frozen_of_row wx rb 3 _ _ hi⟩
theorem rat_past {w wx wy : World} {rb g : Nat} {bs : Value} {len : Nat} {l : List Int} {N : Nat} {r : List Bool} {sh : Bool} (h : RAt w rb bs len l N r sh wx) (hg : wx.grownBy wy (some g)) (h1 : rb ≠ g) (h2 : w.heap.size ≤ g) : RAt w rb bs len l N r sh wy := by
  obtain ⟨⟨a, ha, hi, hr⟩, hgr⟩ := h
  exact ⟨⟨a, ha, grown_block2 hg (by simp; omega) hi, hr⟩, grown_past hgr hg (fun k hk => by simp at hk; omega)⟩
theorem rat_below {w wx wy : World} {rb : Nat} {bs : Value} {len : Nat} {l : List Int} {N : Nat} {r : List Bool} {sh : Bool} (h : RAt w rb bs len l N r sh wx) (hb : Below wx.heap.size wx wy) : RAt w rb bs len l N r sh wy := by
  obtain ⟨⟨a, ha, hi, hr⟩, hgr⟩ := h
  exact ⟨⟨a, ha, (hb.block rb (Array.getElem?_eq_some_iff.1 hi).1).trans hi, hr⟩, ⟨hb.os.trans hgr.os, hb.tape.trans hgr.tape, hb.output.trans hgr.output, Nat.le_trans hgr.size hb.size, fun k hk hn => (hb.block k (Nat.lt_of_lt_of_le hk hgr.size)).trans (hgr.block k hk hn)⟩⟩
theorem WdAt.below {w wx wy : World} {rb wb : Nat} {bs : Value} {len : Nat} {l : List Int} {N : Nat} {s : Rd} (h : WdAt w rb wb bs len l N s wx) (hb : Below wx.heap.size wx wy) : WdAt w rb wb bs len l N s wy :=
  ⟨rat_below h.rd hb, (hb.block wb (Array.getElem?_eq_some_iff.1 h.win).1).trans h.win⟩
theorem WdAt.win3 {w wx : World} {rb wb : Nat} {bs : Value} {len : Nat} {l : List Int} {N : Nat} {s : Rd} (h : WdAt w rb wb bs len l N s wx) (hne : rb ≠ wb) (hw : w.heap.size ≤ wb) (is : Bool) (ld tl : Int) :
    WdAt w rb wb bs len l N { s with is := is, ld := ld, tl := tl } (((wx.setCell ⟨wb, 0, none⟩ (.bool is)).setCell ⟨wb, 1, none⟩ (.int .i64 ld)).setCell ⟨wb, 2, none⟩ (.int .i64 tl)) := by
  have hg : wx.grownBy (((wx.setCell ⟨wb, 0, none⟩ (.bool is)).setCell ⟨wb, 1, none⟩ (.int .i64 ld)).setCell ⟨wb, 2, none⟩ (.int .i64 tl)) (some wb) := grown_setCell (grown_setCell (grown_setCell (World.grownBy.refl _ _) _ _) _ _) _ _
  exact ⟨rat_past h.rd hg hne hw, box3_store _ _ _ h.win⟩
theorem two_win (wx : World) (rb wb : Nat) (is : Bool) (ld tl : Int) : Two wx (((wx.setCell ⟨wb, 0, none⟩ (.bool is)).setCell ⟨wb, 1, none⟩ (.int .i64 ld)).setCell ⟨wb, 2, none⟩ (.int .i64 tl)) rb wb :=
  Two.two (grown_setCell (grown_setCell (grown_setCell (World.grownBy.refl _ _) _ _) _ _) _ _)
theorem tk_one01 (r : List Bool) (sh : Bool) : (tk 1 r sh).1 = 0 ∨ (tk 1 r sh).1 = 1 := by
  have h := tk_bd 1 r sh
  have e : (2 : Int) ^ 1 = 2 := by decide
  rw [e] at h
  omega
set_option maxHeartbeats 8000000 in
set_option maxRecDepth 100000 in
theorem turn_any {w wr : World} {bs : Value} {len : Nat} {l : List Int} {N rb wb : Nat} {s : Rd} (hs : Sl w 1 bs len (l.map (Value.int .u8))) (hl : ∀ z ∈ l, (Lit.int .u8 z).wf = true) (hlen : len ≤ 140737488355328) (hN : N ≤ 8 * len) (hne : 0 < len → bs.ownBlock ≠ some rb) (h : WdAt w rb wb bs len l N s wr) (hB : WB s) (hrw : rb ≠ wb) (hww : w.heap.size ≤ wb) :
    Calls Tryd.prog 36 #[.pointer (some ⟨rb, 0, none⟩), .pointer (some ⟨wb, 0, none⟩)] wr fun e w' => e = .returned (.int .u64 (tnI s).1) ∧ WdAt w rb wb bs len l N (tnI s).2 w' ∧ WB (tnI s).2 ∧ Two wr w' rb wb := by
  have HS := Lib.hid hs
  have HLF := Lib.hid hl
  have HNE := Lib.hid hne
  have H := Lib.hid h
  have HB := Lib.hid hB
  have hA := take_at 1 hs hl hlen hN (by decide) hne h.rd
  have h01 := tk_one01 s.r s.sh
  obtain ⟨T, hT⟩ : ∃ T, tk 1 s.r s.sh = T := ⟨_, rfl⟩
  obtain ⟨V, r1, sh1⟩ := T
  rw [hT] at hA h01
  have HA := Lib.hid hA
  clear hs hl hne h hB hA
  go_enter Tryd.func36, Tryd.ntmps36
  go_wp2_with fail
  refine HA.out.mono ?_
  rintro e w1 ⟨rfl, hr1, hg1⟩
  have HW1 := Lib.hid (H.out.take hrw hr1 hg1)
  have HT1 : Hid (Two wr w1 rb wb) := Lib.hid (Two.one hg1)
  clear hr1 hg1 HA
  by_cases hV : V = 0
  · have HR : Hid (tnI s = (0, { s with r := r1, sh := sh1 })) := Lib.hid (by unfold tnI; rw [hT, if_pos hV])
    subst hV
    clear hT
    go_wp2_with fail
    go_ret
    rw [HR.out]
    exact ⟨rfl, HW1.out, HB.out, HT1.out⟩
  have hV1 : V = 1 := by
    rcases h01 with h | h
    · exact absurd h hV
    · exact h
  subst hV1
  have HTN : Hid (tnI s = if (tk 1 r1 sh1).1 = 1 then finI (opnI (tk 1 r1 sh1).2.1 (tk 1 r1 sh1).2.2) else finI { s with r := (tk 1 r1 sh1).2.1, sh := (tk 1 r1 sh1).2.2 }) := Lib.hid (by unfold tnI; rw [hT]; simp only [if_neg hV])
  clear hT h01 hV
  have hA := take_at 1 HS.out HLF.out hlen hN (by decide) HNE.out HW1.out.rd
  have h01 := tk_one01 r1 sh1
  obtain ⟨T, hT⟩ : ∃ T, tk 1 r1 sh1 = T := ⟨_, rfl⟩
  obtain ⟨V, r2, sh2⟩ := T
  have hA' : Calls Tryd.prog 31 #[.pointer (some ⟨rb, 0, none⟩), .int .i64 (1 : Nat)] w1 fun e w' => e = .returned (.int .u64 V) ∧ RAt w rb bs len l N r2 sh2 w' ∧ w1.grownBy w' (some rb) := by rw [hT] at hA; exact hA
  rw [hT] at h01
  have HA := Lib.hid hA'
  rw [hT] at HTN
  clear hA hA' hT
  go_wp2_with fail
  refine HA.out.mono ?_
  rintro e w2 ⟨rfl, hr2, hg2⟩
  have HW2 : Hid (WdAt w rb wb bs len l N { s with r := r2, sh := sh2 } w2) := Lib.hid (HW1.out.take hrw hr2 hg2)
  have HT2 : Hid (Two wr w2 rb wb) := Lib.hid (HT1.out.trans (Two.one hg2))
  clear hr2 hg2 HA HW1 HT1
  go_upto_if 12 with (fail)
  go_cut [] (fun wx => ∃ s2, Hid (tnI s = finI s2) ∧ Hid (WdAt w rb wb bs len l N s2 wx) ∧ Hid (WB s2) ∧ Hid (Two wr wx rb wb))
  case first =>
    by_cases hV : V = 1
    · subst hV
      have HR0 : Hid (tnI s = finI (opnI r2 sh2)) := Lib.hid (by rw [HTN.out, if_pos rfl])
      have hA := take_at 6 HS.out HLF.out hlen hN (by decide) HNE.out HW2.out.rd
      have hbA := tk_bd 6 r2 sh2
      obtain ⟨T, hT⟩ : ∃ T, tk 6 r2 sh2 = T := ⟨_, rfl⟩
      obtain ⟨A, r3, sh3⟩ := T
      have hA' : Calls Tryd.prog 31 #[.pointer (some ⟨rb, 0, none⟩), .int .i64 (6 : Nat)] w2 fun e w' => e = .returned (.int .u64 A) ∧ RAt w rb bs len l N r3 sh3 w' ∧ w2.grownBy w' (some rb) := by rw [hT] at hA; exact hA
      have HA := Lib.hid hA'
      have hA2 : 0 ≤ A ∧ A < 64 := by
        have e : (2 : Int) ^ 6 = 64 := by decide
        rw [hT, e] at hbA
        exact hbA
      obtain ⟨T2, hT2⟩ : ∃ T, tk 6 r3 sh3 = T := ⟨_, rfl⟩
      have hbB := tk_bd 6 r3 sh3
      obtain ⟨B, r4, sh4⟩ := T2
      have hB2 : 0 ≤ B ∧ B < 64 := by
        have e : (2 : Int) ^ 6 = 64 := by decide
        rw [hT2, e] at hbB
        exact hbB
      have HOP : Hid (opnI r2 sh2 = { r := r4, sh := sh4, is := true, ld := A, tl := 64 - A - (B + 1) }) := Lib.hid (by unfold opnI; rw [hT]; simp only; rw [hT2])
      have HT22 := Lib.hid hT2
      clear hA hA' hbA hbB hT hT2
      go_wp2_with fail
      refine HA.out.mono ?_
      rintro e w3 ⟨rfl, hr3, hg3⟩
      have HW3 : Hid (WdAt w rb wb bs len l N { s with r := r3, sh := sh3 } w3) := Lib.hid (HW2.out.take hrw hr3 hg3)
      have HT3 : Hid (Two wr w3 rb wb) := Lib.hid (HT2.out.trans (Two.one hg3))
      clear hr3 hg3 HA HW2 HT2
      have hA := take_at 6 HS.out HLF.out hlen hN (by decide) HNE.out HW3.out.rd
      have hA' : Calls Tryd.prog 31 #[.pointer (some ⟨rb, 0, none⟩), .int .i64 (6 : Nat)] w3 fun e w' => e = .returned (.int .u64 B) ∧ RAt w rb bs len l N r4 sh4 w' ∧ w3.grownBy w' (some rb) := by
        have h2 : Calls Tryd.prog 31 #[.pointer (some ⟨rb, 0, none⟩), .int .i64 (6 : Nat)] w3 fun e w' => e = .returned (.int .u64 (tk 6 r3 sh3).1) ∧ RAt w rb bs len l N (tk 6 r3 sh3).2.1 (tk 6 r3 sh3).2.2 w' ∧ w3.grownBy w' (some rb) := hA
        rw [HT22.out] at h2
        exact h2
      have HA := Lib.hid hA'
      clear hA hA'
      go_wp2_with fail
      refine HA.out.mono ?_
      rintro e w4 ⟨rfl, hr4, hg4⟩
      have HW4 : Hid (WdAt w rb wb bs len l N { s with r := r4, sh := sh4 } w4) := Lib.hid (HW3.out.take hrw hr4 hg4)
      have HT4 : Hid (Two wr w4 rb wb) := Lib.hid (HT3.out.trans (Two.one hg4))
      clear hr4 hg4 HA HW3 HT3
      obtain ⟨z0, z1, z2⟩ := frozen3 HW4.out.win
      obtain ⟨y0, y1, y2⟩ := cells3 HW4.out.win
      have HW5 := Lib.hid (HW4.out.win3 hrw hww true A (64 - A - (B + 1)))
      have HT5 := Lib.hid (HT4.out.trans (two_win w4 rb wb true A (64 - A - (B + 1))))
      go_wp2_with fail
      go_meet
      exact ⟨{ r := r4, sh := sh4, is := true, ld := A, tl := 64 - A - (B + 1) }, Lib.hid (by rw [HR0.out, HOP.out]), HW5, Lib.hid ⟨by simp only; omega, by simp only; omega, by simp only; omega, by simp only; omega⟩, HT5⟩
    · have t1 : (V == 1) = false := beq_eq_false_iff_ne.2 hV
      have HR : Hid (tnI s = finI { s with r := r2, sh := sh2 }) := Lib.hid (by rw [HTN.out, if_neg hV])
      clear hV
      go_wp2_with fail
      go_meet
      exact ⟨_, HR, HW2, HB, HT2⟩
  obtain ⟨s2, HR, HW, HB2, HT⟩ := hcut
  obtain ⟨z0, z1, z2⟩ := frozen3 HW.out.win
  obtain ⟨y0, y1, y2⟩ := cells3 HW.out.win
  obtain ⟨hr3, hf3⟩ := rat_short HW.out.rd
  have HR3 := Lib.hid hr3
  have hc3 := rat_cell HW.out.rd
  clear hr3
  by_cases hbad : s2.is = false ∨ s2.tl < 0
  · have HF : Hid (finI s2 = (0, { s2 with sh := true })) := Lib.hid (by unfold finI; rw [if_pos hbad])
    have HW5 : Hid (WdAt w rb wb bs len l N { s2 with sh := true } (wc.setCell ⟨rb, 3, none⟩ (.bool true))) := Lib.hid ⟨HR3.out, row_setCell_other _ HW.out.win hrw.symm⟩
    have HT5 : Hid (Two wr (wc.setCell ⟨rb, 3, none⟩ (.bool true)) rb wb) := Lib.hid (HT.out.trans (Two.one (grown_setCell (World.grownBy.refl _ _) _ _)))
    by_cases his : s2.is = false
    · rw [his] at y0
      clear hbad
      go_wp2_with fail
      go_ret
      rw [HR.out, HF.out]
      exact ⟨rfl, HW5.out, HB2.out, HT5.out⟩
    · have hist : s2.is = true := by simpa using his
      rw [hist] at y0
      have htl : s2.tl < 0 := by
        rcases hbad with h | h
        · exact absurd h his
        · exact h
      clear hbad his
      go_wp2_with fail
      go_ret
      rw [HR.out, HF.out]
      exact ⟨rfl, HW5.out, HB2.out, HT5.out⟩
  · have hist : s2.is = true := by
      rcases hi : s2.is with _ | _
      · exact absurd (Or.inl hi) hbad
      · rfl
    have htl : 0 ≤ s2.tl := by
      have := not_or.1 hbad
      omega
    obtain ⟨hb1, hb2, hb3, hb4⟩ := HB2.out
    obtain ⟨r, sh, is, ld, tl⟩ := s2
    simp only at hist htl hb1 hb2 hb3 hb4 y0 y1 y2
    subst hist
    obtain ⟨n, hn⟩ : ∃ n : Nat, 64 - ld - tl = n := ⟨(64 - ld - tl).toNat, by omega⟩
    obtain ⟨tn, rfl⟩ : ∃ n : Nat, tl = n := ⟨tl.toNat, by omega⟩
    have HF : Hid (finI { r := r, sh := sh, is := true, ld := ld, tl := tn } = (wU ((tk n r sh).1 * 2 ^ tn), { r := (tk n r sh).2.1, sh := (tk n r sh).2.2, is := true, ld := ld, tl := tn })) := Lib.hid (by
      unfold finI
      rw [if_neg hbad]
      simp only [hn, Int.toNat_natCast])
    clear hbad
    go_upto_region 10 with (fail)
    have hdr : Below wc.heap.size wc wc.drew := (Below.refl _ _).drew
    go_region_held3 (fun w' => w'.cell? ⟨wb, 0, none⟩ = some (.bool true) ∧ w'.cell? ⟨wb, 1, none⟩ = some (.int .i64 ld) ∧ w'.cell? ⟨wb, 2, none⟩ = some (.int .i64 tn)) (first | (with_reducible exact ⟨y0, y1, y2⟩) | (with_reducible exact ⟨a0, a1, a2⟩) | (with_reducible exact ⟨b0, b1, b2⟩) | go_keep) (first
      | (go_at_call 27; refine (size_any true ld tn (by omega) _).mono ?_; rintro e w5 ⟨rfl, hb5⟩; have hb25 : Below wc.heap.size wc w5 := hdr.trans (hb5.mono (Nat.le_refl wc.heap.size)); have HW5 := Lib.hid (HW.out.below hb25); obtain ⟨a0, a1, a2⟩ := cells3 HW5.out.win)
      | (go_at_call 31; refine (take_at n HS.out HLF.out hlen hN (by omega) HNE.out HW5.out.rd).mono ?_; rintro e w6 ⟨rfl, hr6, hg6⟩; have HW6 := Lib.hid (HW5.out.take hrw hr6 hg6); have hT6 : Two wr w6 rb wb := HT.out.trans (Two.trans ⟨hb25.size, fun k hk _ _ => hb25.block k hk⟩ (Two.one hg6)); obtain ⟨b0, b1, b2⟩ := cells3 HW6.out.win))
    all_goals
      go_wp2_with fail
      go_ret
      rw [HR.out, HF.out]
      exact ⟨rfl, HW6.out, HB2.out, hT6⟩
end Go.Proofs.YtmbmognhbljliaaDoor.Xor
