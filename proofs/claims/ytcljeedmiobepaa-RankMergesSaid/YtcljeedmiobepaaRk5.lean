/-
  Ranks: the walks of Query and of what it calls.
-/
import Derived.Test.YtcljeedmiobepaaRk4
namespace Go.Proofs.Ytcljeedmiobepaa.Rk
open Go.RowKit Go.Gh
set_option linter.unusedVariables false
def sgn (s : Rk) (v r : Int) : Int := if wt s v < r then -1 else 1
set_option maxHeartbeats 2000000 in
set_option maxRecDepth 100000 in
theorem q1_any (s : Rk) (v r : Int) (bx : Nat) (t u : Value) (w : World) (hbox : w.heap[bx]? = some (.cells #[.int .i64 s.k, t, u, .int .i64 s.n, .int .i64 s.sl] 141 (0, 0))) (hv : RkV w (.agg #[.int .i64 s.k, t, u, .int .i64 s.n, .int .i64 s.sl]) s) (hw : wellR s) :
    Calls Try.prog 148 #[.int .i64 v, .int .i64 r, .pointer (some ⟨bx, 0, none⟩)] w fun e w' => e = .returned (.int .i64 (sgn s v r)) ∧ Below w.heap.size w w' := by
  obtain ⟨t', u', e, ht, hu⟩ := hv
  simp at e
  obtain ⟨rfl, rfl⟩ := e
  have hv : RkV w (.agg #[.int .i64 s.k, t, u, .int .i64 s.n, .int .i64 s.sl]) s := ⟨t, u, rfl, ht, hu⟩
  have HV := Lib.hid hv
  have HWL := Lib.hid hw
  obtain ⟨ao, c, rfl, -, -, -⟩ := ht.shape
  obtain ⟨bo, d, rfl, -, -⟩ := hu.shape
  obtain ⟨⟨d0, d1, d2, d3, d4⟩, -⟩ := bx5 hbox
  clear hv ht hu hw hbox
  go_enter Try.func148, Try.ntmps148
  go_wp2_with fail
  refine (weight_any _ s v _ HV.out HWL.out).mono ?_
  rintro e w1 ⟨rfl, hb1⟩
  by_cases hlt : wt s v < r
  · have HS : Hid (sgn s v r = -1) := Lib.hid (if_pos hlt)
    go_wp2_with fail
    go_ret
    exact ⟨by rw [HS.out]; rfl, hb1⟩
  · have HS : Hid (sgn s v r = 1) := Lib.hid (if_neg hlt)
    go_wp2_with fail
    go_ret
    exact ⟨by rw [HS.out]; rfl, hb1⟩
theorem wt_mono {s : Rk} {x y : Int} (h : x ≤ y) : wt s x ≤ wt s y := wtTo_mono h _
theorem srt_le {ss : List Int} (h : ss.Pairwise (· ≤ ·)) {i j : Nat} {x y : Int} (hij : i ≤ j) (hx : ss[i]? = some x) (hy : ss[j]? = some y) : x ≤ y := by
  rcases Nat.lt_or_ge i j with h1 | h1
  · obtain ⟨e1, e2⟩ := List.getElem?_eq_some_iff.1 hx
    obtain ⟨e3, e4⟩ := List.getElem?_eq_some_iff.1 hy
    have := List.pairwise_iff_getElem.1 h i j e1 e3 h1
    rw [e2, e4] at this
    exact this
  · obtain rfl : i = j := by omega
    rw [hx] at hy
    obtain rfl := Option.some.inj hy
    exact Int.le_refl _
set_option maxHeartbeats 4000000 in
set_option maxRecDepth 100000 in
theorem bsf_any (v : Value) (s : Rk) (r : Int) (ss : List Int) (bx : Nat) (t u : Value) (w : World) (hs : Ns w v ss) (hp : ss.Pairwise (· ≤ ·)) (hn : ss.length ≤ 1000000)
    (hbox : w.heap[bx]? = some (.cells #[.int .i64 s.k, t, u, .int .i64 s.n, .int .i64 s.sl] 141 (0, 0))) (hv : RkV w (.agg #[.int .i64 s.k, t, u, .int .i64 s.n, .int .i64 s.sl]) s) (hw : wellR s) :
    Calls Try.prog 147 #[v, .int .i64 r, .func (.func 148) #[] #[.pointer (some ⟨bx, 0, none⟩)]] w fun e w' => ∃ i : Nat, e = .returned (.tuple #[.int .i64 i, .bool false]) ∧ AtR s r ss i ∧ Below w.heap.size w w' := by
  obtain ⟨ao, c, rfl, hnc, hc, -⟩ := hs.shape
  obtain ⟨n, hm⟩ : ∃ m, ss.length = m := ⟨_, rfl⟩
  have HM := Lib.hid hm
  have HS := Lib.hid hs
  have HP := Lib.hid hp
  have hlt0 : bx < w.heap.size := (Array.getElem?_eq_some_iff.1 hbox).1
  have HQ : Hid (∀ W (z : Int), Below w.heap.size w W → Calls Try.prog 148 #[.int .i64 z, .int .i64 r, .pointer (some ⟨bx, 0, none⟩)] W fun e w' => e = .returned (.int .i64 (sgn s z r)) ∧ Below W.heap.size W w') := Lib.hid (fun W z h => q1_any s z r bx t u W ((h.block _ hlt0).trans hbox) (hv.below h) hw)
  rw [hm] at hnc hn HS ⊢
  clear hm hs hp hbox hv hw
  go_enter Try.func147, Try.ntmps147
  go_wp2_with fail
  go_loopg [9, 10] n (fun kx s5 s6 wr => ∃ (lo hi : Nat), s5 = .int .i64 lo ∧ s6 = .int .i64 hi ∧ lo ≤ hi ∧ hi ≤ n ∧ hi - lo ≤ kx ∧ Below w.heap.size w wr ∧
    Hid ((∀ (j : Nat) (x : Int), j < lo → ss[j]? = some x → wt s x < r) ∧ (∀ (j : Nat) (x : Int), hi ≤ j → ss[j]? = some x → r ≤ wt s x)))
  case atStart => exact ⟨0, n, rfl, rfl, Nat.zero_le _, Nat.le_refl _, by omega, Below.refl _ _, Lib.hid ⟨fun j x hj => absurd hj (Nat.not_lt_zero _), fun j x h1 h2 => by have := (List.getElem?_eq_some_iff.1 h2).1; have := HM.out; omega⟩⟩
  case round =>
    obtain ⟨lo, hi, rfl, rfl, hlh, hin, hg, hbr, I⟩ := hrel
    by_cases hlt : lo < hi
    · obtain ⟨M, hM⟩ : ∃ M, (lo + hi) / 2 = M := ⟨_, rfl⟩
      obtain ⟨x, hx⟩ : ∃ x, ss[M]? = some x := ⟨_, List.getElem?_eq_getElem (by rw [HM.out]; omega)⟩
      obtain ⟨b, off, rfl, c0⟩ := (HS.out.below hbr).at hx
      have hMi : ((lo : Int) + (hi : Int)) / 2 = (M : Int) := by omega
      have HX := Lib.hid hx
      clear hx
      by_cases hlk : wt s x < r
      · have HSG : Hid (sgn s x r = -1) := Lib.hid (if_pos hlk)
        go_wp2_with fail
        refine (HQ.out _ x hbr).mono ?_
        rw [HSG.out]
        rintro e w' ⟨rfl, hb'⟩
        go_wp2_with fail
        go_roundg (hi - (M + 1))
        case measure => omega
        case rel =>
          have I2 : Hid ((∀ (j : Nat) (y : Int), j < M + 1 → ss[j]? = some y → wt s y < r) ∧ (∀ (j : Nat) (y : Int), hi ≤ j → ss[j]? = some y → r ≤ wt s y)) := Lib.hid ⟨fun j y hj hy => by
            have := wt_mono (s := s) (srt_le HP.out (show j ≤ M by omega) hy HX.out)
            omega, I.out.2⟩
          exact ⟨M + 1, hi, by go_num, rfl, by omega, hin, Nat.le_refl _, hbr.trans (hb'.mono hbr.size), I2⟩
      · have HSG : Hid (sgn s x r = 1) := Lib.hid (if_neg hlk)
        go_wp2_with fail
        refine (HQ.out _ x hbr).mono ?_
        rw [HSG.out]
        rintro e w' ⟨rfl, hb'⟩
        go_wp2_with fail
        go_roundg (M - lo)
        case measure => omega
        case rel =>
          have I2 : Hid ((∀ (j : Nat) (y : Int), j < lo → ss[j]? = some y → wt s y < r) ∧ (∀ (j : Nat) (y : Int), M ≤ j → ss[j]? = some y → r ≤ wt s y)) := Lib.hid ⟨I.out.1, fun j y hj hy => by
            have := wt_mono (s := s) (srt_le HP.out hj HX.out hy)
            omega⟩
          exact ⟨lo, M, rfl, rfl, by omega, by omega, Nat.le_refl _, hbr.trans (hb'.mono hbr.size), I2⟩
    · obtain rfl : lo = hi := by omega
      have HAT : Hid (AtR s r ss lo) := Lib.hid ⟨by rw [HM.out]; exact hin, I.out.1, I.out.2⟩
      by_cases hlast : lo < n
      · obtain ⟨x, hx⟩ : ∃ x, ss[lo]? = some x := ⟨_, List.getElem?_eq_getElem (by rw [HM.out]; omega)⟩
        obtain ⟨b, off, rfl, c0⟩ := (HS.out.below hbr).at hx
        have HSG : Hid (sgn s x r = 1) := Lib.hid (if_neg (by have := I.out.2 lo x (Nat.le_refl _) hx; omega))
        clear hx
        go_wp2_with fail
        refine (HQ.out _ x hbr).mono ?_
        rw [HSG.out]
        rintro e w' ⟨rfl, hb'⟩
        go_wp2_with fail
        go_ret2
        exact ⟨lo, rfl, HAT.out, hbr.trans (hb'.mono hbr.size)⟩
      · go_wp2_with fail
        go_ret2
        exact ⟨lo, rfl, HAT.out, hbr⟩
open Classical in
noncomputable def queryR (s : Rk) (r : Int) : Int × Int := if rankF s = 0 then (if s.n = 0 then (0, 7) else if r < 1 ∨ s.n < r then (0, 6) else ((bestK s r (keptR s).length).2, 0)) else (0, rankF s)
set_option maxHeartbeats 8000000 in
set_option maxRecDepth 100000 in
theorem Query_any (v : Value) (s : Rk) (r : Int) (w : World) (hv : RkV w v s) :
    Calls Try.prog 90 #[v, .int .i64 r] w fun e w' => e = .returned (.tuple #[.int .i64 (queryR s r).1, .int .i64 (queryR s r).2]) ∧ Below w.heap.size w w' := by
  have HV := Lib.hid hv
  obtain ⟨t, u, rfl, ht, hu⟩ := hv
  obtain ⟨ao, c, rfl, hnc, hc, -⟩ := ht.shape
  obtain ⟨bo, d, rfl, hod, hd⟩ := hu.shape
  have HT := Lib.hid ht
  have HU := Lib.hid hu
  obtain ⟨L, hL⟩ : ∃ n, s.lv.length = n := ⟨_, rfl⟩
  obtain ⟨n, hn⟩ : ∃ n, s.tl.length = n := ⟨_, rfl⟩
  obtain ⟨E, hE⟩ : ∃ E, rankF s = E := ⟨_, rfl⟩
  have HE := Lib.hid hE
  have HL := Lib.hid hL
  have HN := Lib.hid hn
  rw [hn, hL] at HV ⊢
  rw [hn] at HT
  rw [hL] at HU
  obtain ⟨wA, hwA⟩ : ∃ wA, wA = w.alloc (Obj.cells #[.int .i64 s.k, .slice ao n c, .slice bo L d, .int .i64 s.n, .int .i64 s.sl] 141) := ⟨_, rfl⟩
  have hbA : Below w.heap.size w wA := by rw [hwA]; exact (Below.refl _ _).alloc (Nat.le_refl _) _
  have hbox : wA.heap[w.heap.size]? = some (.cells #[.int .i64 s.k, .slice ao n c, .slice bo L d, .int .i64 s.n, .int .i64 s.sl] 141 (0, 0)) := by rw [hwA]; exact heap_alloc_new w _
  have HW := Lib.hid hwA
  have HBA := Lib.hid hbA
  have HBOX := Lib.hid hbox
  clear hn hL ht hu hwA hbA hnc hod hE
  go_enter Try.func90, Try.ntmps90
  go_upto_region 1 with (fail)
  rw [← HW.out]
  have hlt : w.heap.size < wA.heap.size := (Array.getElem?_eq_some_iff.1 hbox).1
  obtain ⟨⟨d0, d1, d2, d3, d4⟩, -⟩ := bx5 hbox
  clear hbox
  go_wp2_with fail
  refine (rkcheck_any _ s _ (HV.out.below HBA.out)).mono ?_
  rw [HE.out]
  rintro e w1 ⟨rfl, hb1⟩
  have HB1 := Lib.hid (HBA.out.trans (hb1.mono HBA.out.size))
  have hbox1 := (hb1.block _ hlt).trans HBOX.out
  have HBOX1 := Lib.hid hbox1
  have hlt1 : w.heap.size < w1.heap.size := (Array.getElem?_eq_some_iff.1 hbox1).1
  clear d0 d1 d2 d3 d4 hb1
  obtain ⟨⟨d0, d1, d2, d3, d4⟩, -⟩ := bx5 hbox1
  clear hbox1
  by_cases hz : E = 0
  case neg =>
    have t1 : (E != 0) = true := by rw [bne_iff_ne]; exact hz
    have HR : Hid (queryR s r = (0, E)) := Lib.hid (by unfold queryR; rw [HE.out, if_neg hz])
    clear hz
    go_wp2_with fail
    go_ret2
    rw [HR.out]
    exact ⟨rfl, HB1.out⟩
  subst hz
  have t1 : ((0 : Int) != 0) = false := rfl
  by_cases hN0 : s.n = 0
  · have HR : Hid (queryR s r = (0, 7)) := Lib.hid (by unfold queryR; rw [HE.out, if_pos rfl, if_pos hN0])
    have t2 : (s.n == 0) = true := by rw [beq_iff_eq]; exact hN0
    clear hN0
    go_wp2_with fail
    go_ret2
    rw [HR.out]
    exact ⟨rfl, HB1.out⟩
  have t2 : (s.n == 0) = false := beq_eq_false_iff_ne.2 hN0
  by_cases hr1 : r < 1
  · have HR : Hid (queryR s r = (0, 6)) := Lib.hid (by unfold queryR; rw [HE.out, if_pos rfl, if_neg hN0, if_pos (Or.inl hr1)])
    clear hN0
    go_wp2_with fail
    go_ret2
    rw [HR.out]
    exact ⟨rfl, HB1.out⟩
  by_cases hr2 : s.n < r
  · have HR : Hid (queryR s r = (0, 6)) := Lib.hid (by unfold queryR; rw [HE.out, if_pos rfl, if_neg hN0, if_pos (Or.inr hr2)])
    clear hN0
    go_wp2_with fail
    go_ret2
    rw [HR.out]
    exact ⟨rfl, HB1.out⟩
  have hqr : queryR s r = ((bestK s r (keptR s).length).2, 0) := by unfold queryR; rw [HE.out, if_pos rfl, if_neg hN0, if_neg (by omega)]
  have HQR := Lib.hid hqr
  have HWL := Lib.hid (rank_ok HE.out)
  have hwp := well_parts HWL.out
  have h64 : ∀ l ∈ s.lv, l.length ≤ 64 := fun l hl => by have := (hwp.2.2.2.2.2 l hl).1; omega
  have hL20 := hwp.2.2.2.1
  have hfl := flat_len h64
  have HFL : Hid (s.lv.flatten.length ≤ 1280) := Lib.hid (by omega)
  have hn64 : n ≤ 64 := by have := HN.out; omega
  have H64 := Lib.hid h64
  have HL20 := Lib.hid hL20
  clear hqr hN0 h64 hL20 hfl hwp
  go_wp2_with fail
  refine (concat_any _ s.lv _ (HU.out.below lvR_mono HB1.out) H64.out HL20.out).mono ?_
  rintro e w2 ⟨v2, rfl, hown2, hb2⟩
  obtain ⟨p, hp⟩ : ∃ p, s.lv.flatten.length = p := ⟨_, rfl⟩
  have HP := Lib.hid hp
  rw [hp] at hown2
  have hp13 : p ≤ 1280 := by have := HFL.out; omega
  obtain ⟨uo, uc, rfl, huc, -, -⟩ := own_shape hown2
  have HB2 := Lib.hid (HB1.out.trans (hb2.mono HB1.out.size))
  have hbox2 := (hb2.block _ hlt1).trans HBOX1.out
  have hT2 : Ns w2 (.slice ao n c) s.tl := HT.out.below HB2.out
  have hlt2 : w.heap.size < w2.heap.size := (Array.getElem?_eq_some_iff.1 hbox2).1
  have hsz2 := hb2.size
  unfold Ns at hT2
  rw [HN.out] at hT2
  have HBOX2 := Lib.hid hbox2
  clear d0 d1 d2 d3 d4 hb2 hp
  obtain ⟨⟨d0, d1, d2, d3, d4⟩, -⟩ := bx5 hbox2
  clear hbox2
  go_wp2_with (at_builtin; refine wpList_append_gen Sort64.elI64 rfl _ _ rfl hown2 (Below.refl w1.heap.size w2) rfl rfl hT2 (Sort64.ints_one _) ?c1 ?c2 hsz2 ?_)
  case c1 => omega
  case c2 => omega
  intro v3 w3 hown3 hb3 hg3
  have hbw3 : Below w.heap.size w w3 := Below.grown HB2.out hg3 HB2.out.size (fun k hk => by have := (hown2.lt k hk).1; have := HB1.out.size; omega)
  have HB3 := Lib.hid hbw3
  have hne3 : (Value.slice uo p uc).ownBlock ≠ some w.heap.size := fun h => by have := (hown2.lt _ h).1; omega
  have hbox3 := grown_block2 hg3 hne3 HBOX2.out
  have hown4 : w3.ownsRow w1.heap.size 2 1 v3 (p + n) ((allR s).map (Value.int .i64)) := by
    unfold allR
    rw [List.map_append]
    simpa using hown3
  have hlt3 : w.heap.size < w3.heap.size := (Array.getElem?_eq_some_iff.1 hbox3).1
  have HO4 := Lib.hid hown4
  have HBOX3 := Lib.hid hbox3
  clear hown2 hown3 hown4 hg3 hb3 hbw3 hT2 hbox3
  go_wp2_with fail
  refine (Sort64.sort_own _ (p + n) w1.heap.size (allR s) _ HO4.out (by omega)).mono ?_
  rintro e w4 ⟨rfl, hown5, hg5⟩
  obtain ⟨ss, hss⟩ : ∃ ss, (allR s).mergeSort (fun x y => decide (x ≤ y)) = ss := ⟨_, rfl⟩
  rw [hss] at hown5
  have hperm : ss.Perm (allR s) := by rw [← hss]; exact List.mergeSort_perm _ _
  have hpw : ss.Pairwise (· ≤ ·) := by rw [← hss]; exact Sort64.sorted_le _
  have hsl : ss.length = p + n := by rw [hperm.length_eq]; unfold allR; rw [List.length_append, HP.out, HN.out]
  have HB4 : Hid (Below w.heap.size w w4) := Lib.hid (Below.grown HB3.out hg5 HB3.out.size (fun k hk => by have := (HO4.out.lt k hk).1; have := HB1.out.size; omega))
  have hne4 : v3.ownBlock ≠ some w.heap.size := fun h => by have := (HO4.out.lt _ h).1; omega
  have hbox4 := grown_block2 hg5 hne4 HBOX3.out
  have HNS : Hid (Ns w4 v3 ss) := Lib.hid (by unfold Ns; rw [hsl]; exact own_sl hown5)
  have HPW := Lib.hid hpw
  have HPM := Lib.hid hperm
  obtain ⟨so, sc, rfl, hsc, -, -⟩ := own_shape hown5
  have HBOX4 := Lib.hid hbox4
  have hlt4 : w.heap.size < w4.heap.size := (Array.getElem?_eq_some_iff.1 hbox4).1
  have hmf : ∀ (fn : Fn) (first cap : Array Value) (w : World), (Instr.makeFunc fn first cap).run Try.prog w = .ok (.func fn first cap) w := fun _ _ _ _ => rfl
  clear d0 d1 d2 d3 d4 hown5 hg5 hss hperm hpw
  obtain ⟨⟨d0, d1, d2, d3, d4⟩, -⟩ := bx5 hbox4
  clear hbox4
  go_wp2_with fail
  refine (bsf_any _ s r ss w.heap.size _ _ _ HNS.out HPW.out (by omega) HBOX4.out (HV.out.below HB4.out) HWL.out).mono ?_
  rintro e w5 ⟨i, rfl, hat, hb5⟩
  have hip := atR_lt HWL.out HPM.out HPW.out (by omega) (by omega) hat
  obtain ⟨z, hz⟩ : ∃ z, ss[i]? = some z := ⟨_, List.getElem?_eq_getElem hip⟩
  have HBI := Lib.hid (best_is HPM.out HPW.out hat hz)
  obtain ⟨gb, goff, rfl, c0⟩ := (HNS.out.below hb5).at hz
  have hi1 : (0 : Int) ≤ (i : Int) := by omega
  have hi2 : (i : Int) < ((p + n : Nat) : Int) := by omega
  have hi3 : (i : Int) < (p : Int) + (n : Int) := by omega
  clear d0 d1 d2 d3 d4 hat hz
  go_wp2_with fail
  go_ret2
  rw [HQR.out, HBI.out]
  exact ⟨rfl, HB4.out.trans (hb5.mono HB4.out.size)⟩
end Go.Proofs.Ytcljeedmiobepaa.Rk
