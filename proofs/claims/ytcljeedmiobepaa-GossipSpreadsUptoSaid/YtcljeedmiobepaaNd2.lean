/-
  The walk of ring.Check.
-/
import Derived.Test.YtcljeedmiobepaaNd1
import Derived.Laws.Cover1
import Derived.IntWalk
namespace Go.Proofs.Ytcljeedmiobepaa.Nod
open Go.RowKit Go.Gh
set_option linter.unusedVariables false
set_option maxHeartbeats 4000000 in
set_option maxRecDepth 100000 in
theorem check_any (v : Value) (L : List Nd) (w : World) (hs : Sp NdR 2 w v L) : Calls Try.prog 64 #[v] w fun e w' => e = .returned (.int .i64 (nodesF L)) ∧ Below w.heap.size w w' := by
  obtain ⟨ao, c, rfl, hnc, hc⟩ := hs.shape
  obtain ⟨n, hn⟩ : ∃ n, n = L.length := ⟨_, rfl⟩
  rw [← hn] at hs hnc ⊢
  have HN := Lib.hid hn
  obtain ⟨F, hF⟩ : ∃ F, nodesF L = F := ⟨_, rfl⟩
  rw [hF]
  have HS := Lib.hid hs
  by_cases hbig : 20 < n
  · have hF2 : F = 2 := by rw [← hF]; exact if_pos (by omega)
    clear hn hF hs
    subst hF2
    go_enter Try.func64, Try.ntmps64
    go_wp2_with fail
    go_ret
    exact ⟨rfl, Below.refl _ _⟩
  have HG : Hid (F = goN none L) := Lib.hid (by rw [← hF]; exact if_neg (by omega))
  clear hn hF hs
  go_enter Try.func64, Try.ntmps64
  go_wp2_with fail
  go_loopw [2, 3, 12] (fun r s i wr => ∃ (k : Nat) (p : Option Nd) (t : ByteArray), k ≤ n ∧ i = .int .i64 k ∧ r = .int .i64 0 ∧ s = .string t ∧ Hid (t.size ≤ 20 ∧ keyS t = pk p) ∧ Hid (F = goN p (L.drop k)) ∧ Below w.heap.size w wr) (fun _ _ i _ => n - (intOf i).toNat)
  case atStart => exact ⟨0, none, ⟨#[]⟩, Nat.zero_le _, rfl, rfl, rfl, Lib.hid ⟨by decide, key_empty⟩, HG, Below.refl _ _⟩
  case round =>
    obtain ⟨k, p, t, hk, rfl, rfl, rfl, HT, HF, hbr⟩ := hrel
    by_cases hlt : k < n
    case neg =>
      obtain rfl : k = n := by omega
      have h0 : F = 0 := by rw [HF.out, HN.out, List.drop_of_length_le (Nat.le_refl _), goN]
      subst h0
      go_wp2_with fail
      go_ret
      exact ⟨rfl, hbr⟩
    obtain ⟨x, hx⟩ : ∃ x, L[k]? = some x := ⟨_, List.getElem?_eq_getElem (by rw [← HN.out]; exact hlt)⟩
    have HX := Lib.hid hx
    obtain ⟨b, off, cs, rfl, ⟨t', rfl, htk⟩, _, hck⟩ := (HS.out.below ndR_mono hbr).get hx
    have HF2 : Hid (F = goN p (x :: L.drop (k + 1))) := Lib.hid (by rw [HF.out, drop_at hx])
    have c0 := hck 0 _ rfl
    have c1 := hck 1 _ rfl
    rw [Nat.add_zero] at c0
    obtain ⟨tw, htk1⟩ := htk
    obtain ⟨ta, tc, rfl, ht1, ht2, -⟩ := tw.shape
    have HTK : Hid (Toks wr (.slice ta x.tk.length tc) x.tk) := Lib.hid ⟨tw, htk1⟩
    obtain ⟨nm, tk⟩ := x
    dsimp only at *
    obtain ⟨m, hm⟩ : ∃ m, m = tk.length := ⟨_, rfl⟩
    rw [← hm] at c1 HTK ht1
    have HM := Lib.hid hm
    clear hx hck tw htk1 hm HF
    have hBa := hbr.alloc hbr.size (Obj.cells #[.string nm, .slice ta m tc] 25)
    by_cases hz : nm.size < 1
    · have h4 : F = 4 := by rw [HF2.out]; exact goN_size (Or.inl hz)
      have he := name_nil hz
      clear hz
      subst he
      subst h4
      go_wp2_with fail
      go_ret
      exact ⟨rfl, hBa⟩
    have hz1 : 1 ≤ nm.size := by omega
    obtain ⟨hem, hnn⟩ := name_ne hz
    by_cases hz2 : 20 < nm.size
    · have h4 : F = 4 := by rw [HF2.out]; exact goN_size (Or.inr hz2)
      subst h4
      go_wp2_with fail
      go_ret
      exact ⟨rfl, hBa⟩
    have hsz : ¬ (nm.size < 1 ∨ 20 < nm.size) := by omega
    have hcmp := name_le (s := nm) (t := t) (by omega) HT.out.1
    rw [HT.out.2] at hcmp
    obtain ⟨D, hD⟩ : ∃ D, decide (keyS nm ≤ pk p) = D := ⟨_, rfl⟩
    rw [hD] at hcmp
    have HD := Lib.hid hD
    generalize hb1 : Op.bytesLess nm.toList t.toList = b1 at *
    generalize hb2 : (nm.toList == t.toList) = b2 at *
    clear hD
    cases D with
    | true =>
      have h5 : F = 5 := by rw [HF2.out]; exact goN_order hsz (of_decide_eq_true HD.out)
      have hsz' := Lib.hid hsz
      clear hsz
      subst h5
      cases b1 with
      | true =>
        clear hcmp
        go_wp2_with fail
        go_ret
        exact ⟨rfl, hBa⟩
      | false =>
        obtain rfl : b2 = true := by simpa using hcmp
        clear hcmp
        go_wp2_with fail
        go_ret
        exact ⟨rfl, hBa⟩
    | false =>
    obtain ⟨rfl, rfl⟩ : b1 = false ∧ b2 = false := by simpa using hcmp
    clear hcmp
    have HSZ := Lib.hid hsz
    clear hsz
    by_cases hz3 : 20 < m
    · have h2 : F = 2 := by rw [HF2.out]; exact goN_large HSZ.out (of_decide_eq_false HD.out) (by rw [← HM.out]; exact hz3)
      subst h2
      go_wp2_with fail
      go_ret
      exact ⟨rfl, hBa⟩
    go_wp2_with fail
    obtain ⟨wA, hwA⟩ : ∃ wA, wA = wr.alloc (Obj.cells #[.string nm, .slice ta m tc] 25) := ⟨_, rfl⟩
    have hA0 : wA.cell? ⟨wr.heap.size, 0, none⟩ = some (.string nm) := by rw [hwA]; exact cell_new wr _ [_, _] 0 _ rfl
    have hA1 : wA.cell? ⟨wr.heap.size, 1, none⟩ = some (.slice ta m tc) := by rw [hwA]; exact cell_new wr _ [_, _] 1 _ rfl
    have HTA : Hid (Toks wA (.slice ta m tc) tk) := Lib.hid (HTK.out.below (by rw [hwA]; exact (Below.refl _ _).alloc (Nat.le_refl _) _))
    have hAs : wr.heap.size < wA.heap.size := by rw [hwA]; simp
    rw [← hwA] at hBa
    rw [← hwA]
    have HCA : Hid (wA.cell? ⟨wr.heap.size, 0, none⟩ = some (.string nm) ∧ wA.cell? ⟨wr.heap.size, 1, none⟩ = some (.slice ta m tc)) := Lib.hid ⟨hA0, hA1⟩
    have HBA := Lib.hid hBa
    generalize hbx : wr.heap.size = bx at *
    have hwsz := hBa.size
    clear hwA hA0 hA1 hBa hbx c0 c1 hbr
    go_loopw [2, 6] (fun r i wr => ∃ j : Nat, j ≤ m ∧ i = .int .i64 (j + 1) ∧ r = .int .i64 0 ∧ Below wA.heap.size wA wr ∧ Hid (∀ i, i < j → i + 1 < m → tk.getD i 0 < tk.getD (i + 1) 0)) (fun _ i _ => m + 1 - (intOf i).toNat)
    case atStart => exact ⟨0, Nat.zero_le _, rfl, rfl, Below.refl _ _, Lib.hid (fun i hi => by omega)⟩
    case round =>
      obtain ⟨j, hj, rfl, rfl, hbi, hord⟩ := hrel
      have b0 : wr.cell? ⟨bx, 0, none⟩ = some (.string nm) := (hbi.cell (p := ⟨bx, 0, none⟩) hAs).trans HCA.out.1
      have b1 : wr.cell? ⟨bx, 1, none⟩ = some (.slice ta m tc) := (hbi.cell (p := ⟨bx, 1, none⟩) hAs).trans HCA.out.2
      have hBW : Below w.heap.size w wr := HBA.out.trans (hbi.mono hwsz)
      by_cases hlt2 : j + 1 < m
      · have HTr := HTA.out.below hbi
        obtain ⟨b2, off2, e2, hc1⟩ := HTr.at (i := j + 1) (by rw [← HM.out]; exact hlt2)
        obtain ⟨b3, off3, e3, hc0⟩ := HTr.at (i := j) (by rw [← HM.out]; omega)
        subst e2
        simp only [Option.some.injEq, Addr.mk.injEq, and_true] at e3
        obtain ⟨rfl, rfl⟩ := e3
        clear HTr
        generalize hx : tk.getD j 0 = x at *
        generalize hy : tk.getD (j + 1) 0 = y at *
        have HX := Lib.hid hx
        have HY := Lib.hid hy
        clear hx hy
        have i1 : IntKind.i64.wrap ((j : Int) + 1 - 1) = (j : Int) := by rw [IntWalk.i64_in _ (by omega)]; omega
        have i2 : ((j : Int) + 1).toNat = j + 1 := by omega
        have i3 : (j : Int) + 1 < m := by omega
        have i4 : 0 ≤ (j : Int) + 1 := by omega
        have i5 : (j : Int) < m := by omega
        by_cases hle : y ≤ x
        · have h5 : F = 5 := by rw [HF2.out]; exact goN_bad HSZ.out (of_decide_eq_false HD.out) (by rw [← HM.out]; exact hz3) (not_asc (j := j) (by rw [← HM.out]; exact hlt2) (by rw [HX.out, HY.out]; exact hle))
          subst h5
          go_wp2_with fail
          go_quiet (fail)
          go_wp2_with fail
          go_ret
          exact ⟨rfl, below_drewN hBW _⟩
        · have hlt' : x < y := by omega
          have HNx : Hid (∀ i, i < j + 1 → i + 1 < m → tk.getD i 0 < tk.getD (i + 1) 0) := Lib.hid (by
            intro i hi hi2
            rcases Nat.lt_or_eq_of_le (Nat.le_of_lt_succ hi) with h | h
            · exact hord.out i h hi2
            · obtain rfl : i = j := h
              rw [HX.out, HY.out]; exact hlt')
          go_wp2_with fail
          go_quiet (fail)
          go_wp2
          go_roundw
          case rel => exact ⟨j + 1, by omega, by go_num, rfl, below_drewN hbi _, HNx⟩
          case measure => simp [intOf]; omega
      · have HF3 : Hid (F = goN (some ⟨nm, tk⟩) (L.drop (k + 1))) := Lib.hid (by
          rw [HF2.out]
          exact goN_on HSZ.out (of_decide_eq_false HD.out) (by rw [← HM.out]; exact hz3) (fun i hi => hord.out i (by rw [← HM.out] at hi; omega) (by rw [HM.out]; exact hi)))
        have HT2 : Hid (nm.size ≤ 20 ∧ keyS nm = pk (some ⟨nm, tk⟩)) := Lib.hid ⟨by omega, rfl⟩
        go_wp2_with fail
        go_roundw
        case rel => exact ⟨k + 1, _, _, by omega, by go_num, rfl, rfl, HT2, HF3, hBW⟩
        case measure => simp [intOf]; omega
end Go.Proofs.Ytcljeedmiobepaa.Nod
