/-
  The walk of ClaimsFault.
-/
import Derived.Test.YtcljeedmiobepaaNd3
import Derived.Test.YtcljeedmiobepaaClm1
namespace Go.Proofs.Ytcljeedmiobepaa.Nod
open Go.RowKit Go.Gh
set_option linter.unusedVariables false
/-- The claim ahead of place k. -/
def PrevC (L : List Cl) (k : Nat) (p : Option Cl) : Prop := (k = 0 ∧ p = none) ∨ ∃ j q, k = j + 1 ∧ p = some q ∧ L[j]? = some q ∧ q.nm.size ≤ 20
set_option maxHeartbeats 4000000 in
set_option maxRecDepth 100000 in
theorem claimsfault_any (v : Value) (L : List Cl) (w : World) (hs : Sp ClR 4 w v L) : Calls Try.prog 17 #[v] w fun e w' => e = .returned (.int .i64 (claimsF L)) ∧ Below w.heap.size w w' := by
  obtain ⟨ao, c, rfl, hnc, hc⟩ := hs.shape
  obtain ⟨n, hn⟩ : ∃ n, n = L.length := ⟨_, rfl⟩
  rw [← hn] at hs hnc ⊢
  have HN := Lib.hid hn
  obtain ⟨F, hF⟩ : ∃ F, claimsF L = F := ⟨_, rfl⟩
  rw [hF]
  have HS := Lib.hid hs
  by_cases hbig : 20 < n
  · have hF2 : F = 2 := by rw [← hF]; exact if_pos (by omega)
    clear hn hF hs
    subst hF2
    go_enter Try.func17, Try.ntmps17
    go_wp2_with fail
    go_ret
    exact ⟨rfl, Below.refl _ _⟩
  have HG : Hid (F = goF none L) := Lib.hid (by rw [← hF]; exact if_neg (by omega))
  clear hn hF hs
  go_enter Try.func17, Try.ntmps17
  go_wp2_with fail
  go_loopw [2, 11] (fun r i wr => ∃ (k : Nat) (p : Option Cl), k ≤ n ∧ i = .int .i64 k ∧ r = .int .i64 0 ∧ Hid (PrevC L k p) ∧ Hid (F = goF p (L.drop k)) ∧ Below w.heap.size w wr) (fun _ i _ => n - (intOf i).toNat)
  case atStart => exact ⟨0, none, Nat.zero_le _, rfl, rfl, Lib.hid (Or.inl ⟨rfl, rfl⟩), HG, Below.refl _ _⟩
  case round =>
    obtain ⟨k, p, hk, rfl, rfl, HT, HF, hbr⟩ := hrel
    by_cases hlt : k < n
    case neg =>
      obtain rfl : k = n := by omega
      have h0 : F = 0 := by rw [HF.out, HN.out, List.drop_of_length_le (Nat.le_refl _), goF]
      subst h0
      go_wp2_with fail
      go_ret
      exact ⟨rfl, hbr⟩
    obtain ⟨x, hx⟩ : ∃ x, L[k]? = some x := ⟨_, List.getElem?_eq_getElem (by rw [← HN.out]; exact hlt)⟩
    have HX := Lib.hid hx
    obtain ⟨b, off, cs, rfl, ⟨t', rfl, htk⟩, _, hck⟩ := (HS.out.below clR_mono hbr).get hx
    have HF2 : Hid (F = goF p (x :: L.drop (k + 1))) := Lib.hid (by rw [HF.out, drop_at hx])
    have c0 := hck 0 _ rfl
    have c1 := hck 1 _ rfl
    have c2 := hck 2 _ rfl
    have c3 := hck 3 _ rfl
    rw [Nat.add_zero] at c0
    obtain ⟨ver, st, nm, tk⟩ := x
    dsimp only at *
    have HTK := Lib.hid htk
    obtain ⟨tw, htk1⟩ := htk
    obtain ⟨ta, tc, rfl, ht1, ht2, -⟩ := tw.shape
    obtain ⟨m, hm⟩ : ∃ m, m = tk.length := ⟨_, rfl⟩
    rw [← hm] at c3 HTK ht1
    have HM := Lib.hid hm
    clear hx hck tw htk1 hm HF
    obtain ⟨E, hE⟩ : ∃ E, nodeF nm tk = E := ⟨_, rfl⟩
    have HE := Lib.hid hE
    clear hE
    go_upto_region 6 with (fail)
    obtain ⟨wA, hwA⟩ : ∃ wA, wA = wr.alloc (Obj.cells #[.int .i64 ver, .int .i64 st, .string nm, .slice ta m tc] 27) := ⟨_, rfl⟩
    have hA0 : wA.cell? ⟨wr.heap.size, 0, none⟩ = some (.int .i64 ver) := by rw [hwA]; exact cell_new wr _ [_, _, _, _] 0 _ rfl
    have hA1 : wA.cell? ⟨wr.heap.size, 1, none⟩ = some (.int .i64 st) := by rw [hwA]; exact cell_new wr _ [_, _, _, _] 1 _ rfl
    have hA2 : wA.cell? ⟨wr.heap.size, 2, none⟩ = some (.string nm) := by rw [hwA]; exact cell_new wr _ [_, _, _, _] 2 _ rfl
    have hA3 : wA.cell? ⟨wr.heap.size, 3, none⟩ = some (.slice ta m tc) := by rw [hwA]; exact cell_new wr _ [_, _, _, _] 3 _ rfl
    have hBA : Below w.heap.size w wA := by rw [hwA]; exact hbr.alloc hbr.size _
    have HSA : Hid (Sp ClR 4 wA (.slice (some ⟨b, off, none⟩) n c) L) := Lib.hid (by rw [hwA]; exact HS.out.below clR_mono (hbr.alloc hbr.size _))
    have hTA : Toks wA (.slice ta m tc) tk := HTK.out.below (by rw [hwA]; exact (Below.refl _ _).alloc (Nat.le_refl _) _)
    have hAs : wr.heap.size < wA.heap.size := by rw [hwA]; simp
    rw [← hwA]
    generalize hbx : wr.heap.size = bx at *
    have hSN := sp_new (R := NdR) (T := 25) (k := 2) wA (⟨nm, tk⟩ : Nd) [.string nm, .slice ta m tc] rfl ⟨_, rfl, hTA.below ((Below.refl _ _).alloc (Nat.le_refl _) _)⟩
    have HSN := Lib.hid hSN
    have HNO : Hid (nodesF [⟨nm, tk⟩] = E) := Lib.hid (by rw [nodes_one]; exact HE.out)
    have HBN : Hid (Below wA.heap.size wA (wA.alloc (Obj.cells #[.string nm, .slice ta m tc] 25))) := Lib.hid ((Below.refl _ _).alloc (Nat.le_refl _) _)
    have HBAH := Lib.hid hBA
    clear hwA hbr c0 c1 c2 c3 HTK hTA hSN hBA hbx
    go_wp2_with fail
    refine (nodesfault_any _ _ _ HSN.out).mono ?_
    rw [HNO.out]
    rintro e w2 ⟨rfl, hb2⟩
    have hb3 := HBN.out.trans (hb2.mono HBN.out.size)
    have HBW := Lib.hid (HBAH.out.trans (hb3.mono HBAH.out.size))
    have d0 : w2.cell? ⟨bx, 0, none⟩ = some (.int .i64 ver) := (hb3.cell (p := ⟨bx, 0, none⟩) hAs).trans hA0
    have d1 : w2.cell? ⟨bx, 1, none⟩ = some (.int .i64 st) := (hb3.cell (p := ⟨bx, 1, none⟩) hAs).trans hA1
    have d2 : w2.cell? ⟨bx, 2, none⟩ = some (.string nm) := (hb3.cell (p := ⟨bx, 2, none⟩) hAs).trans hA2
    have d3 : w2.cell? ⟨bx, 3, none⟩ = some (.slice ta m tc) := (hb3.cell (p := ⟨bx, 3, none⟩) hAs).trans hA3
    have HS2 : Hid (Sp ClR 4 w2 (.slice (some ⟨b, off, none⟩) n c) L) := Lib.hid (HSA.out.below clR_mono hb3)
    have hs2 : bx < w2.heap.size := cell_lt d0
    clear hb2 hb3 hA0 hA1 hA2 hA3 HSA
    by_cases he : E = 0
    case neg =>
      have h5 : F = E := by rw [HF2.out, ← HE.out]; exact goF_node (by show ¬ nodeF nm tk = 0; rw [HE.out]; exact he)
      have t1 : (E != 0) = true := by rw [bne_iff_ne]; exact he
      clear he
      subst h5
      go_wp2_with fail
      go_ret
      exact ⟨rfl, HBW.out⟩
    subst he
    have HS20 := Lib.hid (node_key HE.out)
    have hn20 := HS20.out.2
    obtain ⟨D, hD⟩ : ∃ D, decide (keyS nm ≤ pkc p) = D := ⟨_, rfl⟩
    have HD := Lib.hid hD
    clear hD
    have HCC : Hid (w2.cell? ⟨bx, 0, none⟩ = some (.int .i64 ver) ∧ w2.cell? ⟨bx, 1, none⟩ = some (.int .i64 st) ∧ w2.cell? ⟨bx, 2, none⟩ = some (.string nm) ∧ w2.cell? ⟨bx, 3, none⟩ = some (.slice ta m tc)) := Lib.hid ⟨d0, d1, d2, d3⟩
    go_upto_region 9 with (fail)
    go_cut [37] (fun t wx => t = .bool D ∧ Below w2.heap.size w2 wx)
    case first =>
      rcases HT.out with ⟨rfl, rfl⟩ | ⟨j, q, rfl, rfl, hq, hqs⟩
      · have hDf : D = false := by rw [← HD.out]; exact decide_eq_false (by have := HS20.out.1; unfold pkc; simp only; omega)
        subst hDf
        go_quiet (fail)
        go_wp2
        go_meet
        exact ⟨rfl, below_drewN (Below.refl _ _) _⟩
      · obtain ⟨b2, off2, cs2, e2, ⟨t2, rfl, _⟩, _, hcq⟩ := HS2.out.get hq
        simp only [Option.some.injEq, Addr.mk.injEq, and_true] at e2
        obtain ⟨rfl, rfl⟩ := e2
        have q0 := hcq 2 _ rfl
        have hcmp := name_le (s := nm) (t := q.nm) hn20 hqs
        have HE2 : Hid (decide (keyS nm ≤ keyS q.nm) = D) := Lib.hid HD.out
        rw [HE2.out] at hcmp
        have HCMP := Lib.hid hcmp
        generalize q.nm = qn at *
        generalize hb1 : Op.bytesLess nm.toList qn.toList = b1 at *
        generalize hb2 : (nm.toList == qn.toList) = b2 at *
        have e0 : decide ((0 : Int) < (j + 1 : Nat)) = true := by simp
        have i1 : ((j + 1 : Nat) : Int) - 1 = (j : Int) := by omega
        clear hcq hcmp hq
        go_quiet (fail)
        go_wp2
        go_meet
        exact ⟨congrArg Value.bool HCMP.out, below_drewN (Below.refl _ _) _⟩
    obtain ⟨rfl, hbc⟩ := hcut
    have HBC := Lib.hid (HBW.out.trans (hbc.mono HBW.out.size))
    clear d0 d1 d2 d3
    have d0 : wc.cell? ⟨bx, 0, none⟩ = some (.int .i64 ver) := (hbc.cell (p := ⟨bx, 0, none⟩) hs2).trans HCC.out.1
    have d1 : wc.cell? ⟨bx, 1, none⟩ = some (.int .i64 st) := (hbc.cell (p := ⟨bx, 1, none⟩) hs2).trans HCC.out.2.1
    cases D with
    | true =>
      have h5 : F = 5 := by rw [HF2.out]; exact goF_order HE.out (of_decide_eq_true HD.out)
      subst h5
      go_wp2_with fail
      go_ret
      exact ⟨rfl, HBC.out⟩
    | false =>
    by_cases hbad : ver < 0 ∨ st < 1 ∨ 4 < st
    · have h5 : F = 4 := by rw [HF2.out]; exact goF_form HE.out (of_decide_eq_false HD.out) hbad
      subst h5
      by_cases h1 : ver < 0
      · go_wp2_with fail
        go_ret
        exact ⟨rfl, HBC.out⟩
      by_cases h2 : st < 1
      · go_wp2_with fail
        go_ret
        exact ⟨rfl, HBC.out⟩
      have h3 : 4 < st := by omega
      go_wp2_with fail
      go_ret
      exact ⟨rfl, HBC.out⟩
    have HF3 : Hid (F = goF (some ⟨ver, st, nm, tk⟩) (L.drop (k + 1))) := Lib.hid (by rw [HF2.out]; exact goF_on HE.out (of_decide_eq_false HD.out) hbad)
    have HT2 : Hid (PrevC L (k + 1) (some ⟨ver, st, nm, tk⟩)) := Lib.hid (Or.inr ⟨k, _, rfl, rfl, HX.out, hn20⟩)
    have h1 : ¬ ver < 0 := fun h => hbad (Or.inl h)
    have h2 : ¬ st < 1 := fun h => hbad (Or.inr (Or.inl h))
    have h3 : ¬ 4 < st := fun h => hbad (Or.inr (Or.inr h))
    clear hbad
    go_wp2_with fail
    go_roundw
    case rel => exact ⟨k + 1, _, by omega, by go_num, rfl, HT2, HF3, HBC.out⟩
    case measure => simp [intOf]; omega
end Go.Proofs.Ytcljeedmiobepaa.Nod
