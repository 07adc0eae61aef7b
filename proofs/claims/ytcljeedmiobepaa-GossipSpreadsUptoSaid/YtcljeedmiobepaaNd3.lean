/-
  The walk of NodesFault.
-/
import Derived.Test.YtcljeedmiobepaaNd1
import Derived.Laws.Cover1
import Derived.IntWalk
namespace Go.Proofs.Ytcljeedmiobepaa.Nod
open Go.RowKit Go.Gh
set_option linter.unusedVariables false
/-- The node ahead of place k. -/
def PrevIs (L : List Nd) (k : Nat) (p : Option Nd) : Prop := (k = 0 ∧ p = none) ∨ ∃ j q, k = j + 1 ∧ p = some q ∧ L[j]? = some q ∧ q.nm.size ≤ 20
set_option maxHeartbeats 4000000 in
set_option maxRecDepth 100000 in
theorem nodesfault_any (v : Value) (L : List Nd) (w : World) (hs : Sp NdR 2 w v L) : Calls Try.prog 63 #[v] w fun e w' => e = .returned (.int .i64 (nodesF L)) ∧ Below w.heap.size w w' := by
  obtain ⟨ao, c, rfl, hnc, hc⟩ := hs.shape
  obtain ⟨n, hn⟩ : ∃ n, n = L.length := ⟨_, rfl⟩
  rw [← hn] at hs hnc ⊢
  have HN := Lib.hid hn
  obtain ⟨F, hF⟩ : ∃ F, nodesF L = F := ⟨_, rfl⟩
  rw [hF]
  have HS := Lib.hid hs
  by_cases hbig : 20 < n
  · have hF2 : F = 2 := by rw [← hF]; exact if_pos (by omega)
    clear hn hF hs
    subst hF2
    go_enter Try.func63, Try.ntmps63
    go_wp2_with fail
    go_ret
    exact ⟨rfl, Below.refl _ _⟩
  have HG : Hid (F = goN none L) := Lib.hid (by rw [← hF]; exact if_neg (by omega))
  clear hn hF hs
  go_enter Try.func63, Try.ntmps63
  go_wp2_with fail
  go_loopw [2, 11] (fun r i wr => ∃ (k : Nat) (p : Option Nd), k ≤ n ∧ i = .int .i64 k ∧ r = .int .i64 0 ∧ Hid (PrevIs L k p) ∧ Hid (F = goN p (L.drop k)) ∧ Below w.heap.size w wr) (fun _ i _ => n - (intOf i).toNat)
  case atStart => exact ⟨0, none, Nat.zero_le _, rfl, rfl, Lib.hid (Or.inl ⟨rfl, rfl⟩), HG, Below.refl _ _⟩
  case round =>
    obtain ⟨k, p, hk, rfl, rfl, HT, HF, hbr⟩ := hrel
    by_cases hlt : k < n
    case neg =>
      obtain rfl : k = n := by omega
      have h0 : F = 0 := by rw [HF.out, HN.out, List.drop_of_length_le (Nat.le_refl _), goN]
      subst h0
      go_wp2_with fail
      go_ret
      exact ⟨rfl, hbr⟩
    obtain ⟨x, hx⟩ : ∃ x, L[k]? = some x := ⟨_, List.getElem?_eq_getElem (by rw [← HN.out]; exact hlt)⟩
    have HX := Lib.hid hx
    obtain ⟨b, off, cs, rfl, ⟨t', rfl, htk⟩, _, hck⟩ := (HS.out.below ndR_mono hbr).get hx
    have HF2 : Hid (F = goN p (x :: L.drop (k + 1))) := Lib.hid (by rw [HF.out, drop_at hx])
    have c0 := hck 0 _ rfl
    have c1 := hck 1 _ rfl
    rw [Nat.add_zero] at c0
    obtain ⟨tw, htk1⟩ := htk
    obtain ⟨ta, tc, rfl, ht1, ht2, -⟩ := tw.shape
    have HTK : Hid (Toks wr (.slice ta x.tk.length tc) x.tk) := Lib.hid ⟨tw, htk1⟩
    obtain ⟨nm, tk⟩ := x
    dsimp only at *
    obtain ⟨m, hm⟩ : ∃ m, m = tk.length := ⟨_, rfl⟩
    rw [← hm] at c1 HTK ht1
    have HM := Lib.hid hm
    clear hx hck tw htk1 hm HF
    have hBa := hbr.alloc hbr.size (Obj.cells #[.string nm, .slice ta m tc] 25)
    by_cases hz : nm.size < 1
    · have h4 : F = 4 := by rw [HF2.out]; exact goN_size (Or.inl hz)
      subst h4
      go_wp2_with fail
      go_ret
      exact ⟨rfl, hBa⟩
    have hz1 : 1 ≤ nm.size := by omega
    by_cases hz2 : 20 < nm.size
    · have h4 : F = 4 := by rw [HF2.out]; exact goN_size (Or.inr hz2)
      subst h4
      go_wp2_with fail
      go_ret
      exact ⟨rfl, hBa⟩
    have HSZ : Hid (¬ (nm.size < 1 ∨ 20 < nm.size)) := Lib.hid (by omega)
    obtain ⟨D, hD⟩ : ∃ D, decide (keyS nm ≤ pk p) = D := ⟨_, rfl⟩
    have HD := Lib.hid hD
    clear hD
    go_upto_region 8 with (fail)
    obtain ⟨wA, hwA⟩ : ∃ wA, wA = wr.alloc (Obj.cells #[.string nm, .slice ta m tc] 25) := ⟨_, rfl⟩
    have hA0 : wA.cell? ⟨wr.heap.size, 0, none⟩ = some (.string nm) := by rw [hwA]; exact cell_new wr _ [_, _] 0 _ rfl
    have hA1 : wA.cell? ⟨wr.heap.size, 1, none⟩ = some (.slice ta m tc) := by rw [hwA]; exact cell_new wr _ [_, _] 1 _ rfl
    have HSA : Hid (Sp NdR 2 wA (.slice (some ⟨b, off, none⟩) n c) L) := Lib.hid (by rw [hwA]; exact HS.out.below ndR_mono hBa)
    have HTA : Hid (Toks wA (.slice ta m tc) tk) := Lib.hid (HTK.out.below (by rw [hwA]; exact (Below.refl _ _).alloc (Nat.le_refl _) _))
    have hAs : wr.heap.size < wA.heap.size := by rw [hwA]; simp
    rw [← hwA] at hBa
    rw [← hwA]
    have HCA : Hid (wA.cell? ⟨wr.heap.size, 0, none⟩ = some (.string nm) ∧ wA.cell? ⟨wr.heap.size, 1, none⟩ = some (.slice ta m tc)) := Lib.hid ⟨hA0, hA1⟩
    have HBA := Lib.hid hBa
    generalize hbx : wr.heap.size = bx at *
    have hwsz := hBa.size
    clear hwA hBa hbx c0 c1 hbr HTK
    go_cut [38] (fun t wx => t = .bool D ∧ Below wA.heap.size wA wx)
    case first =>
      rcases HT.out with ⟨rfl, rfl⟩ | ⟨j, q, rfl, rfl, hq, hqs⟩
      · have hDf : D = false := by rw [← HD.out]; exact decide_eq_false (by have := key_one (s := nm) (by omega); unfold pk; simp only; omega)
        subst hDf
        go_quiet (fail)
        go_wp2
        go_meet
        exact ⟨rfl, below_drewN (Below.refl _ _) _⟩
      · obtain ⟨b2, off2, cs2, e2, ⟨t2, rfl, _⟩, _, hcq⟩ := HSA.out.get hq
        simp only [Option.some.injEq, Addr.mk.injEq, and_true] at e2
        obtain ⟨rfl, rfl⟩ := e2
        have q0 := hcq 0 _ rfl
        rw [Nat.add_zero] at q0
        have hcmp := name_le (s := nm) (t := q.nm) (by omega) hqs
        have HE : Hid (decide (keyS nm ≤ keyS q.nm) = D) := Lib.hid HD.out
        rw [HE.out] at hcmp
        have HCMP := Lib.hid hcmp
        generalize q.nm = qn at *
        generalize hb1 : Op.bytesLess nm.toList qn.toList = b1 at *
        generalize hb2 : (nm.toList == qn.toList) = b2 at *
        have d0 : decide ((0 : Int) < (j + 1 : Nat)) = true := by simp
        have i1 : ((j + 1 : Nat) : Int) - 1 = (j : Int) := by omega
        clear hcq hcmp hq
        go_quiet (fail)
        go_wp2
        go_meet
        exact ⟨congrArg Value.bool HCMP.out, below_drewN (Below.refl _ _) _⟩
    obtain ⟨rfl, hbc⟩ := hcut
    have HBC := Lib.hid (HBA.out.trans (hbc.mono hwsz))
    have b0 : wc.cell? ⟨bx, 0, none⟩ = some (.string nm) := (hbc.cell (p := ⟨bx, 0, none⟩) hAs).trans HCA.out.1
    have b1 : wc.cell? ⟨bx, 1, none⟩ = some (.slice ta m tc) := (hbc.cell (p := ⟨bx, 1, none⟩) hAs).trans HCA.out.2
    cases D with
    | true =>
      have h5 : F = 5 := by rw [HF2.out]; exact goN_order HSZ.out (of_decide_eq_true HD.out)
      subst h5
      go_wp2_with fail
      go_ret
      exact ⟨rfl, HBC.out⟩
    | false =>
    by_cases hz3 : 20 < m
    · have h2 : F = 2 := by rw [HF2.out]; exact goN_large HSZ.out (of_decide_eq_false HD.out) (by rw [← HM.out]; exact hz3)
      subst h2
      go_wp2_with fail
      go_ret
      exact ⟨rfl, HBC.out⟩
    have HTC : Hid (Toks wc (.slice ta m tc) tk) := Lib.hid (HTA.out.below hbc)
    have HCC : Hid (wc.cell? ⟨bx, 0, none⟩ = some (.string nm) ∧ wc.cell? ⟨bx, 1, none⟩ = some (.slice ta m tc)) := Lib.hid ⟨b0, b1⟩
    have hcs : bx < wc.heap.size := Nat.lt_of_lt_of_le hAs hbc.size
    have hcsz := HBC.out.size
    go_wp2_with fail
    clear b0 b1 hA0 hA1 hbc
    go_loopw [2, 46] (fun r i wr => ∃ j : Nat, j ≤ m ∧ i = .int .i64 j ∧ r = .int .i64 0 ∧ Below wc.heap.size wc wr ∧ Hid (∀ i, i + 1 < j → tk.getD i 0 < tk.getD (i + 1) 0)) (fun _ i _ => m - (intOf i).toNat)
    case atStart => exact ⟨0, Nat.zero_le _, rfl, rfl, Below.refl _ _, Lib.hid (fun i hi => by omega)⟩
    case round =>
      obtain ⟨j, hj, rfl, rfl, hbi, hord⟩ := hrel
      have b0 : wr.cell? ⟨bx, 0, none⟩ = some (.string nm) := (hbi.cell (p := ⟨bx, 0, none⟩) hcs).trans HCC.out.1
      have b1 : wr.cell? ⟨bx, 1, none⟩ = some (.slice ta m tc) := (hbi.cell (p := ⟨bx, 1, none⟩) hcs).trans HCC.out.2
      have hBW : Below w.heap.size w wr := HBC.out.trans (hbi.mono hcsz)
      by_cases hlt2 : j < m
      · rcases Nat.eq_zero_or_pos j with rfl | hjp
        · go_wp2_with fail
          go_quiet (fail)
          go_wp2
          go_roundw
          case rel => exact ⟨1, by omega, rfl, rfl, below_drewN hbi _, Lib.hid (fun i hi => by omega)⟩
          case measure => simp [intOf]; omega
        obtain ⟨j, rfl⟩ : ∃ g, j = g + 1 := ⟨j - 1, by omega⟩
        have HTr := HTC.out.below hbi
        obtain ⟨b2, off2, e2, hc1⟩ := HTr.at (i := j + 1) (by rw [← HM.out]; exact hlt2)
        obtain ⟨b3, off3, e3, hc0⟩ := HTr.at (i := j) (by rw [← HM.out]; omega)
        subst e2
        simp only [Option.some.injEq, Addr.mk.injEq, and_true] at e3
        obtain ⟨rfl, rfl⟩ := e3
        clear HTr
        generalize hx : tk.getD j 0 = x at *
        generalize hy : tk.getD (j + 1) 0 = y at *
        have HX := Lib.hid hx
        have HY := Lib.hid hy
        clear hx hy
        have d0 : decide ((0 : Int) < (j + 1 : Nat)) = true := by simp
        have i1 : ((j + 1 : Nat) : Int) - 1 = (j : Int) := by omega
        by_cases hle : y ≤ x
        · have h5 : F = 5 := by rw [HF2.out]; exact goN_bad HSZ.out (of_decide_eq_false HD.out) (by rw [← HM.out]; exact hz3) (not_asc (j := j) (by rw [← HM.out]; exact hlt2) (by rw [HX.out, HY.out]; exact hle))
          subst h5
          go_wp2_with fail
          go_quiet (fail)
          go_wp2_with fail
          go_ret
          exact ⟨rfl, below_drewN hBW _⟩
        · have hlt' : x < y := by omega
          have HNx : Hid (∀ i, i + 1 < j + 1 + 1 → tk.getD i 0 < tk.getD (i + 1) 0) := Lib.hid (by
            intro i hi
            rcases Nat.lt_or_eq_of_le (Nat.le_of_lt_succ hi) with h | h
            · exact hord.out i h
            · obtain rfl : i = j := by omega
              rw [HX.out, HY.out]; exact hlt')
          go_wp2_with fail
          go_quiet (fail)
          go_wp2
          go_roundw
          case rel => exact ⟨j + 1 + 1, by omega, by go_num, rfl, below_drewN hbi _, HNx⟩
          case measure => simp [intOf]; omega
      · have HF3 : Hid (F = goN (some ⟨nm, tk⟩) (L.drop (k + 1))) := Lib.hid (by
          rw [HF2.out]
          exact goN_on HSZ.out (of_decide_eq_false HD.out) (by rw [← HM.out]; exact hz3) (fun i hi => hord.out i (by rw [← HM.out] at hi; omega)))
        have HT2 : Hid (PrevIs L (k + 1) (some ⟨nm, tk⟩)) := Lib.hid (Or.inr ⟨k, _, rfl, rfl, HX.out, by show nm.size ≤ 20; omega⟩)
        go_wp2_with fail
        go_roundw
        case rel => exact ⟨k + 1, _, by omega, by go_num, rfl, HT2, HF3, hBW⟩
        case measure => simp [intOf]; omega
end Go.Proofs.Ytcljeedmiobepaa.Nod
