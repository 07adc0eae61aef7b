/-
  The walk of Delta.
-/
import Derived.Test.YtcljeedmiobepaaGos1
import Derived.Test.YtcljeedmiobepaaMapLib
import Derived.Test.YtcljeedmiobepaaClMerge
import Derived.Laws.Cover1
import Derived.StringKeys
namespace Go.Proofs.Ytcljeedmiobepaa.Gos
open Go.RowKit Go.Gh Go.WideShapes Go.Maps Go.ChangeMaps Go.WideMaps Go.Proofs.Ytcljeedmiobepaa.Nod
set_option linter.unusedVariables false
theorem lawS : Keyed Try.prog 9 := string_keyed Try.underlying9
theorem zeroI (w : World) : (zeroValue 2).run Try.prog w = .ok (.int .i64 0) w := by kernel_rfl
noncomputable def clDelta (L : List Cl) (d : List Sn) : List Cl × Int := if claimsF L = 0 then if seenF d = 0 then (deltaF L d, 0) else ([], seenF d) else ([], claimsF L)
def PrevS (d : List Sn) (k : Nat) (p : Option Sn) : Prop := (k = 0 ∧ p = none) ∨ ∃ j q, k = j + 1 ∧ p = some q ∧ d[j]? = some q
theorem sD_take {d : List Sn} {k : Nat} {x : Sn} (h : d[k]? = some x) : sD (d.take (k + 1)) = (sD (d.take k)).put (kl x.nm) (.lit (.int .i64 x.ver)) := by
  obtain ⟨h1, h2⟩ := List.getElem?_eq_some_iff.1 h
  rw [List.take_succ_eq_append_getElem h1, h2, sD_snoc]
theorem delta_skip {L : List Cl} {d : List Sn} {k : Nat} {x : Cl} (h : L[k]? = some x) (hl : lacksF d x = false) : deltaF (L.take (k + 1)) d = deltaF (L.take k) d := by
  obtain ⟨h1, h2⟩ := List.getElem?_eq_some_iff.1 h
  unfold deltaF
  rw [List.take_succ_eq_append_getElem h1, h2, List.filter_append, List.filter_cons, hl]
  simp
theorem delta_take {L : List Cl} {d : List Sn} {k : Nat} {x : Cl} (h : L[k]? = some x) (hl : lacksF d x = true) : deltaF (L.take (k + 1)) d = deltaF (L.take k) d ++ [x] := by
  obtain ⟨h1, h2⟩ := List.getElem?_eq_some_iff.1 h
  unfold deltaF
  rw [List.take_succ_eq_append_getElem h1, h2, List.filter_append, List.filter_cons, hl]
  simp
theorem seen_none {x : Sn} {L : List Sn} : seenGo none (x :: L) = seenGo (some x) L := rfl
theorem seen_some {p x : Sn} {L : List Sn} : seenGo (some p) (x :: L) = (leB x.nm p.nm || seenGo (some x) L) := rfl
set_option maxHeartbeats 8000000 in
set_option maxRecDepth 100000 in
theorem delta_any (v u : Value) (L : List Cl) (d : List Sn) (w : World) (hs : Sp ClR 4 w v L) (ht : Sp SnR 2 w u d) : Calls Try.prog 25 #[v, u] w (ClPost w (clDelta L d)) := by
  obtain ⟨ao, c, rfl, hnc, hc⟩ := hs.shape
  obtain ⟨bo, cd, rfl, hod, hd⟩ := ht.shape
  obtain ⟨n, hn⟩ : ∃ n, L.length = n := ⟨_, rfl⟩
  obtain ⟨m, hm⟩ : ∃ m, d.length = m := ⟨_, rfl⟩
  rw [hn] at hs hnc ⊢
  rw [hm] at ht hod ⊢
  have HN := Lib.hid hn
  have HM := Lib.hid hm
  have HS := Lib.hid hs
  have HT := Lib.hid ht
  obtain ⟨E, hE⟩ : ∃ E, claimsF L = E := ⟨_, rfl⟩
  have HE := Lib.hid hE
  obtain ⟨R, hR⟩ : ∃ R, clDelta L d = R := ⟨_, rfl⟩
  rw [hR]
  have HR := Lib.hid hR
  clear hn hm hs ht hE hR
  by_cases hz : E = 0
  case neg =>
    have HF : Hid (R = ([], E)) := Lib.hid (by rw [← HR.out]; unfold clDelta; rw [HE.out, if_neg hz])
    have t1 : (E != 0) = true := by rw [bne_iff_ne]; exact hz
    clear hz
    go_enter Try.func25, Try.ntmps25
    go_wp2_with (go_at_call 20; refine (clcheck_any _ L _ HS.out).mono ?_; rw [HE.out]; rintro e w1 ⟨rfl, hb1⟩)
    go_ret2
    exact clPost_nil HF.out hb1
  subst hz
  have hn20 : n ≤ 20 := by have := (claims_zero HE.out).1; rw [HN.out] at this; exact this
  have HGL := Lib.hid (good_of HE.out)
  by_cases hbig : 20 < m
  · have HF : Hid (R = ([], 2)) := Lib.hid (by
      have h2 : seenF d = 2 := if_pos (by rw [HM.out]; exact hbig)
      rw [← HR.out]; unfold clDelta; rw [if_pos HE.out, h2]; rfl)
    go_enter Try.func25, Try.ntmps25
    go_wp2_with (go_at_call 20; refine (clcheck_any _ L _ HS.out).mono ?_; rw [HE.out]; rintro e w1 ⟨rfl, hb1⟩)
    go_ret2
    exact clPost_nil HF.out hb1
  have HG5 : Hid (seenGo none d = true → R = ([], 5)) := Lib.hid (fun h => by
    have h2 : seenF d = 5 := by unfold seenF; rw [if_neg (by rw [HM.out]; exact hbig), if_pos h]
    rw [← HR.out]; unfold clDelta; rw [if_pos HE.out, h2]; rfl)
  have HG0 : Hid (seenGo none d = false → R = (deltaF L d, 0)) := Lib.hid (fun h => by
    have h2 : seenF d = 0 := by unfold seenF; rw [if_neg (by rw [HM.out]; exact hbig), if_neg (by rw [h]; simp)]
    rw [← HR.out]; unfold clDelta; rw [if_pos HE.out, h2]; rfl)
  have hmm := @run_makeMap Try.prog
  go_enter Try.func25, Try.ntmps25
  go_wp2_with (go_at_call 20; refine (clcheck_any _ L _ HS.out).mono ?_; rw [HE.out]; rintro e w1 ⟨rfl, hb1⟩)
  obtain ⟨wM, hwM⟩ : ∃ wM, wM = w1.alloc (.map #[] 0) := ⟨_, rfl⟩
  have hmap : wM.ownsMap Try.prog 9 (plainElem Try.prog 2) w1.heap.size 0 (sD []) := by rw [hwM]; exact World.ownsMap_made _ _ _ _
  have hbM : Below w.heap.size w wM := by rw [hwM]; exact hb1.alloc hb1.size _
  have hszM : wM.heap.size = w1.heap.size + 1 := by rw [hwM]; simp
  have hbmw := hb1.size
  rw [← hwM]
  generalize w1.heap.size = bm at *
  have HMAP := Lib.hid hmap
  have HBM := Lib.hid hbM
  have HSM := Lib.hid hszM
  clear hwM hmap hbM hszM hb1 hmm
  go_loopw [26] (fun i wr => ∃ (k : Nat) (p : Option Sn), k ≤ m ∧ i = .int .i64 k ∧ Hid (PrevS d k p) ∧ Hid (seenGo none d = seenGo p (d.drop k)) ∧ Hid (wr.ownsMap Try.prog 9 (plainElem Try.prog 2) bm k (sD (d.take k))) ∧ Hid (Below w.heap.size w wr)) (fun i _ => m - (intOf i).toNat)
  case atStart => exact ⟨0, none, Nat.zero_le _, rfl, Lib.hid (Or.inl ⟨rfl, rfl⟩), Lib.hid rfl, HMAP, HBM⟩
  case round =>
    obtain ⟨k, p, hk, rfl, HP, HQ, HO, HB⟩ := hrel
    by_cases hlt : k < m
    case pos =>
      obtain ⟨x, hx⟩ : ∃ x, d[k]? = some x := ⟨_, List.getElem?_eq_getElem (by rw [HM.out]; exact hlt)⟩
      have HX := Lib.hid hx
      obtain ⟨b, off, cs, rfl, ⟨rfl, hxs, hxw⟩, _, hck⟩ := (HT.out.below snR_mono HB.out).get hx
      have HXW := Lib.hid hxw
      have HQ2 : Hid (seenGo none d = seenGo p (x :: d.drop (k + 1))) := Lib.hid (by rw [HQ.out, drop_at hx])
      have HST := Lib.hid (sD_take hx)
      have c0 := hck 0 _ rfl
      have c1 := hck 1 _ rfl
      rw [Nat.add_zero] at c0
      have hkey := keyOf_string_mk (P := Try.prog) (k := 9) Try.underlying9 (s := x.nm) (by unfold maxLen; omega)
      have HKEY := Lib.hid hkey
      clear hck hx hxw hkey HQ
      go_upto_region 10 with (fail)
      obtain ⟨wA, hwA⟩ : ∃ wA, wA = wr.alloc (Obj.cells #[.string x.nm, .int .i64 x.ver] 47) := ⟨_, rfl⟩
      have hbox : wA.heap[wr.heap.size]? = some (.cells #[.string x.nm, .int .i64 x.ver] 47 (0, 0)) := by rw [hwA]; exact heap_alloc_new wr _
      have hbA : Below wr.heap.size wr wA := by rw [hwA]; exact (Below.refl _ _).alloc (Nat.le_refl _) _
      rw [← hwA]
      have HBA := Lib.hid (HB.out.trans (hbA.mono HB.out.size))
      have HOA := Lib.hid (ownsMap_below HO.out hbA)
      have HTA := Lib.hid (HT.out.below snR_mono HBA.out)
      obtain ⟨⟨d0, d1⟩, -⟩ := bx2 hbox
      have HD01 := Lib.hid (And.intro d0 d1)
      have hbxA : wr.heap.size < wA.heap.size := cell_lt d0
      generalize wr.heap.size = bx at *
      obtain ⟨D, hD⟩ : ∃ D, (match p with | none => false | some q => leB x.nm q.nm) = D := ⟨_, rfl⟩
      have HD := Lib.hid hD
      clear hwA hbox hbA c0 c1 hD
      go_cut [43] (fun t wx => t = .bool D ∧ Below wA.heap.size wA wx)
      case first =>
        rcases HP.out with ⟨rfl, rfl⟩ | ⟨j, q, rfl, rfl, hq⟩
        · have hDf : D = false := HD.out.symm
          subst hDf
          go_quiet (fail)
          go_wp2
          go_meet
          exact ⟨rfl, below_drewN (Below.refl _ _) _⟩
        · obtain ⟨b2, off2, cs2, e2, ⟨rfl, _, _⟩, _, hcq⟩ := HTA.out.get hq
          simp only [Option.some.injEq, Addr.mk.injEq, and_true] at e2
          obtain ⟨rfl, rfl⟩ := e2
          have q0 := hcq 0 _ rfl
          rw [Nat.add_zero] at q0
          have HDD : Hid ((Op.bytesLess x.nm.toList q.nm.toList || x.nm.toList == q.nm.toList) = D) := HD
          generalize q.nm = qn at *
          generalize hb1 : Op.bytesLess x.nm.toList qn.toList = b1 at *
          generalize hb2 : (x.nm.toList == qn.toList) = b2 at *
          have e0 : decide ((0 : Int) < (j + 1 : Nat)) = true := by simp
          have i1 : ((j + 1 : Nat) : Int) - 1 = (j : Int) := by omega
          clear hcq hq
          go_quiet (fail)
          go_wp2
          go_meet
          exact ⟨congrArg Value.bool HDD.out, below_drewN (Below.refl _ _) _⟩
      obtain ⟨rfl, hbc⟩ := hcut
      have HBC := Lib.hid (HBA.out.trans (hbc.mono HBA.out.size))
      have hOc := ownsMap_below HOA.out hbc
      have e0 : wc.cell? ⟨bx, 0, none⟩ = some (.string x.nm) := (hbc.cell (p := ⟨bx, 0, none⟩) hbxA).trans HD01.out.1
      have e1 : wc.cell? ⟨bx, 1, none⟩ = some (.int .i64 x.ver) := (hbc.cell (p := ⟨bx, 1, none⟩) hbxA).trans HD01.out.2
      clear d0 d1 hbc HTA HOA
      cases D with
      | true =>
        have HF : Hid (R = ([], 5)) := Lib.hid (HG5.out (by
          rw [HQ2.out]
          cases p with
          | none => have h : false = true := HD.out; exact absurd h (by decide)
          | some q => have h : leB x.nm q.nm = true := HD.out; rw [seen_some, h]; rfl))
        go_wp2_with fail
        go_ret2
        exact clPost_nil HF.out HBC.out
      | false =>
        have HQ3 : Hid (seenGo none d = seenGo (some x) (d.drop (k + 1))) := Lib.hid (by
          rw [HQ2.out]
          cases p with
          | none => rfl
          | some q => have h : leB x.nm q.nm = false := HD.out; rw [seen_some, h]; rfl)
        have HP2 : Hid (PrevS d (k + 1) (some x)) := Lib.hid (Or.inr ⟨k, x, rfl, rfl, HX.out⟩)
        go_wp2_with (at_mapUpdate; refine wpList_mapUpdate_own _ rfl _ _ _ 162 rfl 9 2 lawS Try.underlying162 _ bm k _ rfl hOc (by unfold maxLen; omega) _ _ _ rfl rfl HKEY.out _ [] (plainElem_int Try.underlying2 HXW.out) ?_)
        intro w2 hown2 hgrow2
        have HO2 : Hid (w2.ownsMap Try.prog 9 (plainElem Try.prog 2) bm (k + 1) (sD (d.take (k + 1)))) := Lib.hid (by rw [HST.out]; exact hown2)
        have HB2 : Hid (Below w.heap.size w w2) := Lib.hid (HBC.out.grown hgrow2 HBC.out.size (fun j hj => by cases hj; exact hbmw))
        clear hown2 hgrow2 hOc e0 e1
        go_wp2_with fail
        go_roundw
        case rel => exact ⟨k + 1, _, by omega, by go_num, HP2, HQ3, HO2, HB2⟩
        case measure => simp [intOf]; omega
    obtain rfl : k = m := by omega
    have HRES := Lib.hid (HG0.out (by rw [HQ.out, List.drop_of_length_le (by rw [HM.out]; exact Nat.le_refl _)]; cases p <;> rfl))
    have HSG : Hid (seenGo none d = false) := Lib.hid (by rw [HQ.out, List.drop_of_length_le (by rw [HM.out]; exact Nat.le_refl _)]; cases p <;> rfl)
    have HMD : Hid (wr.ownsMap Try.prog 9 (plainElem Try.prog 2) bm k (sD d)) := Lib.hid (by have := HO.out; rwa [List.take_of_length_le (by rw [HM.out]; exact Nat.le_refl _)] at this)
    clear HO HP HQ
    go_wp2_with fail
    obtain ⟨wq, rfl⟩ : ∃ x : World, x = wr := ⟨_, rfl⟩
    go_loopw [10, 52] (fun u i wr => ∃ (j p : Nat), j ≤ n ∧ p ≤ j ∧ i = .int .i64 j ∧ Hid ((deltaF (L.take j) d).length = p) ∧ Hid (Ow (ClB 27 w.heap.size) 4 27 w.heap.size wr u (deltaF (L.take j) d)) ∧ Hid (wr.ownsMap Try.prog 9 (plainElem Try.prog 2) bm k (sD d)) ∧ Below w.heap.size w wr) (fun _ i _ => n - (intOf i).toNat)
    case atStart => exact ⟨0, 0, Nat.zero_le _, Nat.le_refl _, rfl, Lib.hid rfl, Lib.hid Ow.nil, HMD, HB.out⟩
    case round =>
      obtain ⟨j, p, hj, hpj, rfl, HPL, HO, HMP, hbel⟩ := hrel
      have hsz := hbel.size
      by_cases hlt2 : j < n
      case neg =>
        obtain rfl : j = n := by omega
        have HO2 : Hid (Ow (ClB 27 w.heap.size) 4 27 w.heap.size wr u10 (deltaF L d)) := Lib.hid (by have := HO.out; rwa [List.take_of_length_le (by rw [HN.out]; exact Nat.le_refl _)] at this)
        go_wp2_with fail
        go_ret2
        rw [HRES.out]
        exact ⟨_, rfl, HO2.out, hbel⟩
      obtain ⟨x, hx⟩ : ∃ x, L[j]? = some x := ⟨_, List.getElem?_eq_getElem (by rw [HN.out]; exact hlt2)⟩
      obtain ⟨hx20, hxt20⟩ := HGL.out x (List.mem_of_getElem? hx)
      obtain ⟨b, off, cs, rfl, ⟨t, rfl, htx⟩, _, hck⟩ := (HS.out.below clR_mono hbel).get hx
      have HX := Lib.hid hx
      have c0 := hck 0 _ rfl
      have c1 := hck 1 _ rfl
      have c2 := hck 2 _ rfl
      have c3 := hck 3 _ rfl
      rw [Nat.add_zero] at c0
      have HTX := Lib.hid htx
      obtain ⟨ta, tc, rfl, -, -, -⟩ := htx.1.shape
      obtain ⟨uo, uc, rfl, hu1, hu2⟩ := Sp.shapeN HO.out.sp HPL.out
      obtain ⟨P, hP1, hP2, hP3, hP4⟩ := HO.out
      rw [HPL.out] at hP4
      have HPP := Lib.hid (And.intro hP1 (And.intro hP2 hP3))
      have HOW := Lib.hid hP4
      have hkey := keyOf_string_mk (P := Try.prog) (k := 9) Try.underlying9 (s := x.nm) (by unfold maxLen; omega)
      have HKEY := Lib.hid hkey
      obtain ⟨Lk, hLk⟩ : ∃ Lk, lacksF d x = Lk := ⟨_, rfl⟩
      have HLK := Lib.hid hLk
      clear hck hx htx hP1 hP2 hP3 hP4 hkey hLk
      go_upto_region 18 with (fail)
      obtain ⟨wA, hwA⟩ : ∃ wA, wA = wr.alloc (Obj.cells #[.int .i64 x.ver, .int .i64 x.st, .string x.nm, .slice ta x.tk.length tc] 27) := ⟨_, rfl⟩
      have hbox : wA.heap[wr.heap.size]? = some (.cells #[.int .i64 x.ver, .int .i64 x.st, .string x.nm, .slice ta x.tk.length tc] 27 (0, 0)) := by rw [hwA]; exact heap_alloc_new wr _
      have hbA : Below wr.heap.size wr wA := by rw [hwA]; exact (Below.refl _ _).alloc (Nat.le_refl _) _
      have hsA : wr.heap.size < wA.heap.size := by rw [hwA]; simp
      rw [← hwA]
      have HBA := Lib.hid (hbel.trans (hbA.mono hsz))
      have HBx := Lib.hid hbA
      have HBOX := Lib.hid hbox
      have hmA := ownsMap_below HMP.out hbA
      obtain ⟨⟨d0, d1, d2, d3⟩, -⟩ := bx4 hbox
      have hbw : w.heap.size ≤ wr.heap.size := hsz
      generalize hbx : wr.heap.size = bx at *
      have HBXE := Lib.hid hbx
      clear hwA hbox hbA c0 c1 c2 c3 hbx
      go_upto_region 19 with (at_lookup; refine wpList_lookup_own_ok_int _ rfl _ _ 162 rfl 9 2 .i64 lawS Try.underlying162 Try.underlying2 (zeroI _) bm k (sD d) rfl hmA _ _ rfl HKEY.out ?_; intro vv hat hwv)
      have HLL : Hid ((!Maps.has (sD d) (.string x.nm.data.toList) || decide (vv ≤ x.ver)) = Lk) := Lib.hid (by rw [← HLK.out]; exact lacks_look HSG.out x vv hat)
      have HMA := Lib.hid hmA
      clear hat hwv hmA
      go_cut [71] (fun t wx => t = .bool Lk ∧ wx = wA)
      case first =>
        have h := HLL.out
        generalize Maps.has (sD d) (.string x.nm.data.toList) = hs at *
        clear HLL
        cases hs with
        | false =>
          obtain rfl : Lk = true := by rw [← h]; rfl
          clear h
          go_wp2_with fail
          go_meet
          exact ⟨rfl, rfl⟩
        | true =>
          by_cases hle : vv ≤ x.ver
          · obtain rfl : Lk = true := by rw [← h, decide_eq_true hle]; rfl
            clear h
            go_wp2_with fail
            go_meet
            exact ⟨rfl, rfl⟩
          · obtain rfl : Lk = false := by rw [← h, decide_eq_false hle]; rfl
            clear h
            go_wp2_with fail
            go_meet
            exact ⟨rfl, rfl⟩
      obtain ⟨rfl, hwc⟩ := hcut
      subst hwc
      clear HLL
      cases Lk with
      | false =>
        have hrs := delta_skip HX.out HLK.out
        have HP2 : Hid ((deltaF (L.take (j + 1)) d).length = p) := Lib.hid (by rw [hrs]; exact HPL.out)
        have HO2 : Hid (Ow (ClB 27 w.heap.size) 4 27 w.heap.size wc (.slice uo p uc) (deltaF (L.take (j + 1)) d)) := Lib.hid (by
          rw [hrs]
          exact Ow.below clB_mono ⟨P, HPP.out.1, HPP.out.2.1, HPP.out.2.2, by rw [HPL.out]; exact HOW.out⟩ (by rw [HBXE.out]; exact HBx.out))
        clear hrs d0 d1 d2 d3
        go_wp2_with fail
        go_roundw
        case rel => exact ⟨j + 1, p, by omega, by omega, by go_num, HP2, HO2, HMA, HBA.out⟩
        case measure => simp [intOf]; omega
      | true =>
        have hrs := delta_take HX.out HLK.out
        have HRS := Lib.hid hrs
        have HLN : Hid ((deltaF (L.take (j + 1)) d).length = p + 1) := Lib.hid (by rw [hrs, List.length_append, HPL.out]; rfl)
        clear hrs
        go_wp2_with fail
        refine (clone_u64 _ _ x.tk _ (HTX.out.below (by rw [HBXE.out]; exact HBx.out)).1 (by omega)).mono ?_
        rintro e w4 ⟨t', rfl, hown4, hb4⟩
        obtain ⟨ro, rc, rfl, -, -, -⟩ := own_shape hown4
        have h4 := (hb4.block bx hsA).trans HBOX.out
        have hne : ∀ k, k < wc.heap.size → (Value.slice ro x.tk.length rc).ownBlock ≠ some k := by
          intro k hk he
          have := (hown4.lt k he).1
          omega
        have h5 := row_setCell 3 (.slice ro x.tk.length rc) h4
        obtain ⟨⟨p0, p1, p2, p3⟩, ⟨f0, f1, f2, f3⟩⟩ := bx4 h4
        have hB5 : Below bx wr (w4.setCell ⟨bx, 3, none⟩ (.slice ro x.tk.length rc)) := (HBx.out.trans (hb4.mono (Nat.le_of_lt hsA))).setCell (p := ⟨bx, 3, none⟩) (Nat.le_refl _) _
        have HB5 : Hid (Below wr.heap.size wr (w4.setCell ⟨bx, 3, none⟩ (.slice ro x.tk.length rc))) := Lib.hid (by rw [HBXE.out]; exact hB5)
        have hO5 : (w4.setCell ⟨bx, 3, none⟩ (.slice ro x.tk.length rc)).ownsRow w.heap.size 27 4 (.slice uo p uc) p (pc P) := own_below HOW.out HB5.out
        have HM5 := Lib.hid (ownsMap_below HMP.out HB5.out)
        have HT5 : Hid ((w4.setCell ⟨bx, 3, none⟩ (.slice ro x.tk.length rc)).ownsRow wc.heap.size 99 1 (.slice ro x.tk.length rc) x.tk.length (x.tk.map (Value.int .u64))) := Lib.hid (ownsRow_setCell_other hown4 (a := ⟨bx, 3, none⟩) (hne bx hsA) _)
        have HBW5 : Hid (Below w.heap.size w (w4.setCell ⟨bx, 3, none⟩ (.slice ro x.tk.length rc))) := Lib.hid (hbel.trans (hB5.mono hbw))
        have HP5 : Hid (∀ q ∈ P, ClB 27 w.heap.size (w4.setCell ⟨bx, 3, none⟩ (.slice ro x.tk.length rc)) q.1 q.2) := Lib.hid (fun q hq => clB_mono _ _ _ _ (HPP.out.2.2 q hq) HB5.out)
        obtain ⟨w5, hw5⟩ : ∃ w5, w5 = w4.setCell ⟨bx, 3, none⟩ (.slice ro x.tk.length rc) := ⟨_, rfl⟩
        rw [← hw5] at h5 hO5 HM5 HT5 HBW5 HP5
        have HW5 := Lib.hid hw5
        have H5 := Lib.hid h5
        clear hown4 hb4 hne h4 h5 hB5 d0 d1 d2 d3 hw5 HB5
        go_upto_region 21 with (fail)
        rw [← HW5.out]
        obtain ⟨⟨q0, q1, q2, q3⟩, -⟩ := bx4 H5.out
        clear p0 p1 p2 p3 f0 f1 f2 f3
        go_wp2_with (at_builtin; refine append1 [.int .i64 x.ver, .int .i64 x.st, .string x.nm, .slice ro x.tk.length rc] elCl rfl _ _ rfl hO5 HBW5.out HBW5.out.size rfl rfl rfl (by intro x hx; simp at hx; rcases hx with rfl | rfl | rfl | rfl <;> rfl) ?c4 ?c5 ?_)
        case c4 => omega
        case c5 => omega
        intro v6 w6 hown6 hbel6 hgr6
        have HON : Hid (Ow (ClB 27 w.heap.size) 4 27 w.heap.size w6 v6 (deltaF (L.take (j + 1)) d)) := Lib.hid (by
          rw [HRS.out]
          exact Ow.snoc clB_grow HPP.out.1 HPP.out.2.1 HP5.out hO5 HPL.out.symm hgr6 hown6 rfl ⟨_, rfl, ⟨own_sl HT5.out, HTX.out.2⟩, ApU.own HT5.out⟩)
        have HM6 : Hid (w6.ownsMap Try.prog 9 (plainElem Try.prog 2) bm k (sD d)) := Lib.hid (HM5.out.kept hgr6 (map_ne HM5.out hO5))
        have HB6 := Lib.hid hbel6
        obtain ⟨vo, vc, rfl, -, -, -⟩ := own_shape hown6
        clear hO5 hown6 hgr6 hbel6 q0 q1 q2 q3
        go_wp2_with fail
        go_roundw
        case rel => exact ⟨j + 1, p + 1, by omega, by omega, by go_num, HLN, HON, HM6, HB6.out⟩
        case measure => simp [intOf]; omega
end Go.Proofs.Ytcljeedmiobepaa.Gos
