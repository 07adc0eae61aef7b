/-
  Ranks: the walk of the reference's Carried, one step.
-/
import Derived.Test.YtcljeedmiobepaaRk14
namespace Go.Proofs.Ytcljeedmiobepaa.Rk
open Go.RowKit Go.Gh
set_option linter.unusedVariables false
theorem rkX_shape {B : Nat} {w : World} {v : Value} {s : Rk} (h : RkX B w v s) : ∃ ao n c bo L d, v = .agg #[.int .i64 s.k, .slice ao n c, .slice bo L d, .int .i64 s.n, .int .i64 s.sl] ∧ RkX B w (.agg #[.int .i64 s.k, .slice ao n c, .slice bo L d, .int .i64 s.n, .int .i64 s.sl]) s := by
  have h' := h
  obtain ⟨t, u, P, rfl, ht, -, -, -, hu⟩ := h
  obtain ⟨ao, c, rfl, -, -, -⟩ := ht.out.shape
  obtain ⟨bo, d, rfl, -, -, -⟩ := hu.out.shape
  exact ⟨_, _, _, _, _, _, rfl, h'⟩
theorem lvX_one {B : Nat} {w : World} {P : List (List Int × List Value)} (h : ∀ p ∈ P, LvX B w p.1 p.2) : ∀ u ∈ pc P, u.oneCell' = true := by
  intro u hu
  obtain ⟨p, hp, hup⟩ := List.mem_flatMap.1 hu
  obtain ⟨t, e1, e2⟩ := h p hp
  obtain ⟨ao, c, rfl, -⟩ := e2.out.shape
  rw [e1] at hup
  obtain rfl : u = .slice ao p.1.length c := by simpa using hup
  rfl
theorem foldB_len (l m : List Int) : (foldB l m).length = l.length + m.length := by rw [(foldB_perm m l).length_eq, List.length_append]
/-- The levels are in the box. -/
structure KBt (B bx : Nat) (w : World) (s : Rk) (t u : Value) (wr : World) : Prop where
  box : wr.heap[bx]? = some (.cells #[.int .i64 s.k, t, u, .int .i64 s.n, .int .i64 s.sl] 141 (0, 0))
  res : wr.heap[bx + 1]? = some (.cells #[.int .i64 0, .slice none 0 0, .slice none 0 0, .int .i64 0, .int .i64 0] 141 (0, 0))
  rk : RkX B wr (.agg #[.int .i64 s.k, t, u, .int .i64 s.n, .int .i64 s.sl]) s
  bel : Below bx w wr
  low : B ≤ bx ∧ bx ≤ wr.heap.size
theorem KAt.boxed {B bx : Nat} {w wr : World} {s : Rk} {l : List Int} {t u0 lval u : Value} {lv : List (List Int)} (h : KAt B bx w s l t u0 lval lv u wr) : KBt B bx w ⟨s.k, s.tl, lv, s.n, s.sl⟩ t u (wr.setCell ⟨bx, 2, none⟩ u) :=
  ⟨by simpa using row_setCell 2 u h.box, row_setCell_other (i := 2) (b' := bx) u h.res (by omega), (h.rank s.sl).go (Ag.set h.low.1 h.box KL_rk), h.bel.setCell (p := ⟨bx, 2, none⟩) (Nat.le_refl _) _, ⟨h.low.1, by simpa using h.low.2⟩⟩
theorem RkX.slack {B : Nat} {w : World} {t u : Value} {s : Rk} {k n sl : Int} (h : RkX B w (.agg #[.int .i64 s.k, t, u, .int .i64 s.n, .int .i64 s.sl]) s) : RkX B w (.agg #[.int .i64 s.k, t, u, .int .i64 n, .int .i64 sl]) ⟨s.k, s.tl, s.lv, n, sl⟩ := by
  obtain ⟨t', u', P, e, h2, h3, h4, h5, h6⟩ := h
  simp only [Value.agg.injEq, Array.mk.injEq, List.cons.injEq, and_true, true_and] at e
  obtain ⟨rfl, rfl⟩ := e
  exact ⟨t, u, P, rfl, h2, h3, h4, h5, h6⟩
theorem KBt.slack {B bx : Nat} {w wr : World} {s : Rk} {t u : Value} (h : KBt B bx w s t u wr) (sl : Int) : KBt B bx w ⟨s.k, s.tl, s.lv, s.n, sl⟩ t u (wr.setCell ⟨bx, 4, none⟩ (.int .i64 sl)) :=
  ⟨by simpa using row_setCell 4 (.int .i64 sl) h.box, row_setCell_other (i := 4) (b' := bx) (.int .i64 sl) h.res (by omega), (h.rk.slack (k := s.k)).go (Ag.set h.low.1 h.box KL_rk), h.bel.setCell (p := ⟨bx, 4, none⟩) (Nat.le_refl _) _, ⟨h.low.1, by simpa using h.low.2⟩⟩
structure CPre (B lev : Nat) (S : Int) (w : World) (v : Value) (s : Rk) (lval : Value) (l : List Int) : Prop where
  rk : RkX B w v s
  ns : NsX B w lval l
  low : B ≤ w.heap.size
  cnt : s.lv.length ≤ 30
  levs : lev ≤ 30
  lvs : ∀ a ∈ s.lv, a.length ≤ 64 ∧ a.Pairwise (· ≤ ·)
  len : l.length ≤ 64
  sl0 : 0 ≤ s.sl
  sl1 : s.sl ≤ S + 2 ^ lev
def CPost (B : Nat) (w : World) (s : Rk) (T : List (List Int) × Int) (e : Ending) (w' : World) : Prop := ∃ v', e = .returned v' ∧ RkX B w' v' ⟨s.k, s.tl, T.1, s.n, T.2⟩ ∧ Below w.heap.size w w'
set_option maxHeartbeats 8000000 in
set_option maxRecDepth 100000 in
theorem Carried_step (B lev : Nat) (S : Int) (v lval : Value) (s : Rk) (l : List Int) (w : World) (h : CPre B lev S w v s lval l) (hS : 0 ≤ S ∧ S ≤ 4611686018427387904)
    (hrec : lev < s.lv.length → ∀ (v' lval' : Value) (s' : Rk) (l' : List Int) (w' : World), s'.lv.length = s.lv.length → CPre B (lev + 1) S w' v' s' lval' l' → Calls Try.prog 155 #[v', lval', .int .i64 ((lev : Int) + 1)] w' (CPost B w' s' (carryG s'.lv s'.sl l' (lev + 1)))) :
    Calls Try.prog 155 #[v, lval, .int .i64 lev] w (CPost B w s (carryG s.lv s.sl l lev)) := by
  obtain ⟨hx, hn, hB, hL30, hlev, hlvs, hl64, hsl0, hsl1⟩ := h
  have hp30 := pow30 (i := lev) hlev
  have hslb : 0 ≤ s.sl ∧ s.sl ≤ 4611686019501129728 := by
    generalize (2 : Int) ^ lev = E at *
    omega
  have HSL1 := Lib.hid hsl1
  have HS := Lib.hid hS
  have HREC := Lib.hid hrec
  have HLVS := Lib.hid hlvs
  obtain ⟨T, hT⟩ : ∃ T, carryG s.lv s.sl l lev = T := ⟨_, rfl⟩
  have HT := Lib.hid hT
  rw [hT]
  clear hp30 hsl1 hS hrec hlvs hT hsl0
  obtain ⟨t, u, P, rfl, ht, hP1, hP2, hP3, hu⟩ := hx
  obtain ⟨ao, c, rfl, -, -, -⟩ := ht.out.shape
  obtain ⟨bo, d, rfl, hLd, hd, -⟩ := hu.out.shape
  obtain ⟨lo, lc, rfl, hlc, -, -⟩ := hn.out.shape
  obtain ⟨n, hnn⟩ : ∃ n, s.tl.length = n := ⟨_, rfl⟩
  obtain ⟨L, hL⟩ : ∃ n, s.lv.length = n := ⟨_, rfl⟩
  obtain ⟨q, hq⟩ : ∃ n, l.length = n := ⟨_, rfl⟩
  rw [hnn] at ht ⊢
  rw [hL] at hu hL30 hLd ⊢
  rw [hq] at hn hl64 hlc ⊢
  have HL := Lib.hid hL
  have HQ := Lib.hid hq
  obtain ⟨wA, hwA⟩ : ∃ wA, wA = (w.alloc (Obj.cells #[.int .i64 s.k, .slice ao n c, .slice bo L d, .int .i64 s.n, .int .i64 s.sl] 141)).alloc (Obj.cells #[.int .i64 0, .slice none 0 0, .slice none 0 0, .int .i64 0, .int .i64 0] 141) := ⟨_, rfl⟩
  have hb1 : wA.heap[w.heap.size]? = some (.cells #[.int .i64 s.k, .slice ao n c, .slice bo L d, .int .i64 s.n, .int .i64 s.sl] 141 (0, 0)) := by rw [hwA]; exact two_first w _ _
  have hb2 : wA.heap[w.heap.size + 1]? = some (.cells #[.int .i64 0, .slice none 0 0, .slice none 0 0, .int .i64 0, .int .i64 0] 141 (0, 0)) := by rw [hwA]; exact two_second w _ _
  have hbA : Below w.heap.size w wA := by rw [hwA]; exact ((Below.refl _ _).alloc (Nat.le_refl _) _).alloc (by simp) _
  have hag : ∀ K, Ag K B w wA := fun K => Ag.of_below hbA
  have hKA : KAt B w.heap.size w s l (.slice ao n c) (.slice bo L d) (.slice lo q lc) [] (.slice none 0 0) wA :=
    ⟨hb1, hb2, ⟨[], rfl, PK.nil, fun p hp => by simp at hp, World.ownsRow_nil _ _ _ _⟩, hn.go (hag _), ht.go (hag _), hbA, ⟨hB, hbA.size⟩⟩
  have HSU := Lib.hid ((hu.go (hag _)).out)
  have HP := Lib.hid (And.intro hP1 (And.intro hP2 (fun p hp => (hP3 p hp).go (hag KN))))
  have HONE := Lib.hid (lvX_one hP3)
  have HKA := Lib.hid hKA
  have HW := Lib.hid hwA
  have HBA := Lib.hid hbA
  clear hL hnn hq ht hu hn hwA hbA hb1 hb2 hag hKA hP1 hP2 hP3
  go_enter Try.func155, Try.ntmps155
  go_upto_region 1 with (fail)
  rw [← HW.out]
  obtain ⟨bx, hbx⟩ : ∃ bx, w.heap.size = bx := ⟨_, rfl⟩
  have HBX := Lib.hid hbx
  rw [hbx] at HKA hB ⊢
  clear hbx
  have hszA := HKA.out.low.2
  have hbelA := HKA.out.bel
  obtain ⟨⟨d0, d1, d2, d3, d4⟩, -⟩ := bx5 HKA.out.box
  have hown0 : wA.ownsRow bx 72 1 (.slice none 0 0) 0 [] := World.ownsRow_nil _ _ _ _
  go_wp2_with (at_builtin; refine wpList_append_gen elLv rfl _ _ rfl hown0 hbelA rfl rfl HSU.out HONE.out ?c1 ?c2 hszA ?_)
  case c1 => omega
  case c2 => omega
  intro v7 w7 hown7 hbel7 hgr7
  have HK1 : Hid (KAt B bx w s l (.slice ao n c) (.slice bo L d) (.slice lo q lc) s.lv v7 w7) := Lib.hid (HKA.out.copy rfl HP.out.1 HP.out.2.1 HP.out.2.2 (by rw [HL.out]; exact hown7) hgr7)
  clear hown7 hbel7 hgr7 hown0 hszA hbelA d0 d1 d2 d3 d4
  go_wp2_with fail
  go_loopg [7] 40 (fun kx x wx => ∃ (lv2 : List (List Int)), lv2.length ≤ 31 ∧ 32 - lv2.length ≤ kx ∧ Hid (pad lv2 (lev + 1) = pad s.lv (lev + 1)) ∧ Hid (KAt B bx w s l (.slice ao n c) (.slice bo L d) (.slice lo q lc) lv2 x wx))
  case atStart => exact ⟨s.lv, by rw [HL.out]; omega, by omega, Lib.hid rfl, HK1⟩
  case round =>
    obtain ⟨lv2, hl31, hkx, HPD, HK⟩ := hrel
    obtain ⟨p, hp⟩ : ∃ p, lv2.length = p := ⟨_, rfl⟩
    obtain ⟨P2, e1, e2, e3, e4⟩ := HK.out.row
    rw [hp] at e4 hl31 hkx
    obtain ⟨ro, rc, rfl, hrc, -, -⟩ := own_shape e4
    have HPL := Lib.hid hp
    by_cases hlt : p ≤ lev
    · have HPP := Lib.hid (And.intro e1 (And.intro e2 e3))
      have hbel := HK.out.bel
      have hsz := HK.out.low.2
      clear e1 e2 e3 hp
      go_wp2_with (at_builtin; refine append1 [.slice none 0 0] elLv rfl _ _ rfl e4 hbel hsz rfl rfl rfl (by intro u hu; simp at hu; rw [hu]; rfl) ?c4 ?c5 ?_)
      case c4 => omega
      case c5 => omega
      intro v8 w8 hown8 hbel8 hgr8
      have HK8 := Lib.hid (HK.out.more HPL.out HPP.out.1 HPP.out.2.1 HPP.out.2.2 e4 hown8 hgr8)
      have HPD8 : Hid (pad (lv2 ++ [[]]) (lev + 1) = pad s.lv (lev + 1)) := Lib.hid (by rw [pad_more (by rw [HPL.out]; omega)]; exact HPD.out)
      clear hown8 hbel8 hgr8 e4 hbel hsz
      go_wp2_with fail
      go_roundg (32 - (p + 1))
      case measure => omega
      case rel => exact ⟨lv2 ++ [[]], by rw [List.length_append, HPL.out, List.length_singleton]; omega, by rw [List.length_append, HPL.out, List.length_singleton]; exact Nat.le_refl _, HPD8, HK8⟩
    have hlt2 : lev < p := by omega
    have hpd : lv2 = pad s.lv (lev + 1) := by rw [← HPD.out, pad_same (by rw [HPL.out]; exact hlt2)]
    obtain ⟨a, ha⟩ : ∃ a, lv2[lev]? = some a := ⟨_, List.getElem?_eq_getElem (by rw [HPL.out]; exact hlt2)⟩
    obtain ⟨g, cap, ta, e5, hbg, c0, z0, hna⟩ := HK.out.level HPL.out ha
    simp only [Value.slice.injEq, true_and] at e5
    obtain ⟨rfl, rfl⟩ := e5
    obtain ⟨xo, xc, rfl, hxc, -, -⟩ := hna.out.shape
    obtain ⟨wB, rfl⟩ : ∃ x, x = wr := ⟨_, rfl⟩
    obtain ⟨an, han⟩ : ∃ m, a.length = m := ⟨_, rfl⟩
    rw [han] at hna c0
    have HNA := Lib.hid hna
    have HA := Lib.hid ha
    have HAN := Lib.hid han
    have HPDE := Lib.hid hpd
    have hi1 : (0 : Int) ≤ (lev : Int) := by omega
    have hi2 : (lev : Int) < (p : Int) := by omega
    clear e1 e2 e3 hna ha han hpd hp
    by_cases ha0 : an = 0
    · subst ha0
      obtain ⟨⟨d0, d1, d2, d3, d4⟩, ⟨f0, f1, f2, f3, f4⟩⟩ := bx5 HK.out.box
      have HTP : Hid (T = (lv2.set lev l, s.sl)) := Lib.hid (by
        rw [← HT.out]
        rcases Nat.lt_or_ge lev s.lv.length with h1 | h1
        · have h2 : lv2 = s.lv := by rw [HPDE.out, pad_same h1]
          rw [h2]
          exact carryG_put (by rw [← h2]; exact HA.out) HAN.out
        · rw [carryG_out h1, HPDE.out])
      have HK5 := Lib.hid (HK.out.put (i := lev) HPL.out hlt2 (a := l) HK.out.ns)
      clear HNA
      go_upto_region 6 with (fail)
      obtain ⟨w5, hw5⟩ : ∃ x, x = wB.setCell ⟨g, lev, none⟩ (.slice lo q lc) := ⟨_, rfl⟩
      rw [← hw5] at HK5 ⊢
      clear hw5 d0 d1 d2 d3 d4 f0 f1 f2 f3 f4 c0 z0 HK
      have HKB := Lib.hid HK5.out.boxed
      obtain ⟨⟨d0, d1, d2, d3, d4⟩, ⟨f0, f1, f2, f3, f4⟩⟩ := bx5 HK5.out.box
      go_upto_region 7 with (fail)
      obtain ⟨w6, hw6⟩ : ∃ x, x = w5.setCell ⟨bx, 2, none⟩ (.slice (some ⟨g, 0, none⟩) p rc) := ⟨_, rfl⟩
      rw [← hw6] at HKB ⊢
      clear hw6 d0 d1 d2 d3 d4 f0 f1 f2 f3 f4 HK5
      have B1 : w6.heap[bx]? = some (.cells #[.int .i64 s.k, .slice ao n c, .slice (some ⟨g, 0, none⟩) p rc, .int .i64 s.n, .int .i64 s.sl] 141 (0, 0)) := HKB.out.box
      obtain ⟨⟨d0, d1, d2, d3, d4⟩, -⟩ := bx5 B1
      obtain ⟨⟨q0, q1, q2, q3, q4⟩, ⟨f0, f1, f2, f3, f4⟩⟩ := bx5 HKB.out.res
      have hst := bx5_store (.int .i64 s.k) (.slice ao n c) (.slice (some ⟨g, 0, none⟩) p rc) (.int .i64 s.n) (.int .i64 s.sl) HKB.out.res
      obtain ⟨⟨s0, s1, s2, s3, s4⟩, -⟩ := bx5 hst
      have HBF := Lib.hid (bx5_below (.int .i64 s.k) (.slice ao n c) (.slice (some ⟨g, 0, none⟩) p rc) (.int .i64 s.n) (.int .i64 s.sl) (show bx ≤ bx + 1 by omega) HKB.out.bel)
      have HRF := Lib.hid (HKB.out.rk.go (Ag.stores5 (x0 := .int .i64 s.k) (x1 := .slice ao n c) (x2 := .slice (some ⟨g, 0, none⟩) p rc) (x3 := .int .i64 s.n) (x4 := .int .i64 s.sl) (show B ≤ bx + 1 by omega) HKB.out.res KL_rk))
      clear hst B1
      go_wp2_with fail
      refine bodyPost_ret (v := .agg #[.int .i64 s.k, .slice ao n c, .slice (some ⟨g, 0, none⟩) p rc, .int .i64 s.n, .int .i64 s.sl]) (by simp [results, Try.results155, go_sem, s0, s1, s2, s3, s4]) rfl ?_
      show CPost _ _ _ _ _ _
      rw [HTP.out]
      exact ⟨_, rfl, HRF.out, by rw [HBX.out]; exact HBF.out⟩
    have hltL : lev < s.lv.length := by
      rcases Nat.lt_or_ge lev s.lv.length with h1 | h1
      · exact h1
      · exfalso
        have h2 := HA.out
        rw [HPDE.out] at h2
        unfold pad at h2
        rw [List.getElem?_append_right h1] at h2
        obtain ⟨h3, h4⟩ := List.getElem?_eq_some_iff.1 h2
        rw [List.getElem_replicate] at h4
        have := HAN.out
        rw [← h4] at this
        exact ha0 this.symm
    have hlv2 : lv2 = s.lv := by rw [HPDE.out, pad_same hltL]
    have hHA := HLVS.out a (List.mem_of_getElem? (by rw [← hlv2]; exact HA.out))
    have han64 : an ≤ 64 := by rw [← HAN.out]; exact hHA.1
    have HSRT := Lib.hid hHA.2
    have HLT := Lib.hid hltL
    have HLV2 := Lib.hid hlv2
    have HNL := Lib.hid HK.out.ns
    have hane : ((an : Int) == 0) = false := by rw [beq_eq_false_iff_ne]; omega
    clear hltL hlv2 hHA e4
    go_wp2_with fail
    go_loopw [8, 44] (fun x y wx => ∃ i : Nat, i ≤ q ∧ y = .int .i64 i ∧ Hid (Ns wx x (foldB a (l.take i))) ∧ Below wB.heap.size wB wx) (fun _ y _ => q - (intOf y).toNat)
    case atStart => exact ⟨0, Nat.zero_le _, rfl, Lib.hid (by rw [List.take_zero]; show Ns _ _ a; exact HNA.out.out), Below.refl _ _⟩
    case round =>
      obtain ⟨i, hiq, rfl, HX, hbr⟩ := hrel
      obtain ⟨yo, yc, rfl, hyc, -, -⟩ := HX.out.shape
      obtain ⟨m, hm⟩ : ∃ m, (foldB a (l.take i)).length = m := ⟨_, rfl⟩
      have hm128 : m ≤ 128 := by rw [← hm, foldB_len, List.length_take, HAN.out, HQ.out]; omega
      have HM := Lib.hid hm
      rw [hm] at HX hyc ⊢
      clear c0 z0 hm
      by_cases hiq2 : i < q
      · obtain ⟨z, hz⟩ : ∃ z, l[i]? = some z := ⟨_, List.getElem?_eq_getElem (by rw [HQ.out]; exact hiq2)⟩
        obtain ⟨gs, goff, e6, c1⟩ := (HNL.out.out.below hbr).at hz
        have HF := Lib.hid (foldB_take (l := a) hz)
        clear hz
        subst e6
        go_wp2_with fail
        refine (inserted_any _ (foldB a (l.take i)) z _ HX.out (by rw [HM.out]; omega)).mono ?_
        rintro e w8 ⟨v8, rfl, hown8, hb8⟩
        have HX8 : Hid (Ns w8 v8 (foldB a (l.take (i + 1)))) := Lib.hid (by rw [HF.out]; exact own_sl hown8)
        have hbr8 := hbr.trans (hb8.mono hbr.size)
        clear hown8 hb8 c1
        go_wp2_with fail
        go_roundw
        case rel => exact ⟨i + 1, by omega, by go_num, HX8, hbr8⟩
        case measure => simp [intOf]; omega
      obtain rfl : i = q := by omega
      have htq : l.take i = l := List.take_of_length_le (by rw [HQ.out]; exact Nat.le_refl _)
      obtain ⟨ss, hss⟩ : ∃ ss, ss = (a ++ l).mergeSort fun x y => decide (x ≤ y) := ⟨_, rfl⟩
      have hfm : foldB a (l.take i) = ss := by
        rw [htq]
        exact foldB_merge HSRT.out (by rw [hss]; exact List.mergeSort_perm _ _) (by rw [hss]; exact Sort64.sorted_le _)
      rw [hfm] at HX HM
      have HSS := Lib.hid hss
      have hlen : ss.length = an + i := by rw [hss, List.length_mergeSort, List.length_append, HAN.out, HQ.out]
      have HSL := Lib.hid hlen
      obtain ⟨w9, rfl⟩ : ∃ x, x = wr := ⟨_, rfl⟩
      clear hss hfm htq hlen
      go_wp2_with fail
      go_loopw [11, 54] (fun x y wx => ∃ j : Nat, j ≤ m ∧ y = .int .i64 j ∧ Hid (wx.ownsRow w9.heap.size 2 1 x (oddTo ss j).length ((oddTo ss j).map (Value.int .i64))) ∧ Below w9.heap.size w9 wx) (fun _ y _ => m - (intOf y).toNat)
      case atStart => exact ⟨0, Nat.zero_le _, rfl, Lib.hid (World.ownsRow_nil _ _ _ _), Below.refl _ _⟩
      case round =>
        obtain ⟨j, hjm, rfl, HO, hbj⟩ := hrel
        obtain ⟨r, hr⟩ : ∃ r, (oddTo ss j).length = r := ⟨_, rfl⟩
        have hrj := oddTo_len (l := ss) j
        have hown := HO.out
        rw [hr] at hown hrj
        obtain ⟨zo, zc, rfl, hzc, -, -⟩ := own_shape hown
        have HR := Lib.hid hr
        clear hr
        by_cases hjm2 : j < m
        · obtain ⟨z, hz⟩ : ∃ z, ss[j]? = some z := ⟨_, List.getElem?_eq_getElem (by rw [HM.out]; exact hjm2)⟩
          have hns : Ns w9 (.slice yo m yc) ss := HX.out
          obtain ⟨gs, goff, e6, c1⟩ := (hns.below hbj).at hz
          subst e6
          have hst := oddTo_step hz
          clear hz hns
          by_cases hodd : j % 2 = 1
          · have HST : Hid (oddTo ss (j + 1) = oddTo ss j ++ [z]) := Lib.hid (by rw [hst, if_pos hodd])
            clear hst
            go_wp2_with (at_builtin; refine append1 [.int .i64 z] Sort64.elI64 rfl _ _ rfl hown hbj hbj.size rfl rfl rfl (by intro u hu; simp at hu; rw [hu]; rfl) ?c4 ?c5 ?_)
            case c4 => omega
            case c5 => omega
            intro v8 w8 hown8 hbel8 hgr8
            have HO8 : Hid (w8.ownsRow w9.heap.size 2 1 v8 (oddTo ss (j + 1)).length ((oddTo ss (j + 1)).map (Value.int .i64))) := Lib.hid (by
              rw [HST.out, List.length_append, HR.out, List.map_append]
              simpa using hown8)
            clear hown8 hgr8 hown
            go_wp2_with fail
            go_roundw
            case rel => exact ⟨j + 1, by omega, by go_num, HO8, hbel8⟩
            case measure => simp [intOf]; omega
          · have HST : Hid (oddTo ss (j + 1) = oddTo ss j) := Lib.hid (by rw [hst, if_neg hodd])
            clear hst
            have HO8 : Hid (wr.ownsRow w9.heap.size 2 1 (.slice zo r zc) (oddTo ss (j + 1)).length ((oddTo ss (j + 1)).map (Value.int .i64))) := Lib.hid (by rw [HST.out, HR.out]; exact hown)
            clear hown
            go_wp2_with fail
            go_roundw
            case rel => exact ⟨j + 1, by omega, by go_num, HO8, hbj⟩
            case measure => simp [intOf]; omega
        obtain rfl : j = m := by omega
        have hend : oddTo ss j = halfS ss := oddTo_end j (by rw [HM.out]; exact Nat.le_refl _)
        have HHL : Hid (r = (an + i) / 2) := Lib.hid (by
          have h1 := half_len ss j (by rw [HM.out]; exact Nat.le_refl _)
          have h2 := HR.out
          have h3 := HM.out
          have h4 := HSL.out
          omega)
        rw [hend] at hown HR
        have HOW := Lib.hid hown
        have HKR := Lib.hid (HK.out.below (hbr.trans (hbj.mono hbr.size)))
        clear hown hend
        obtain ⟨w10, rfl⟩ : ∃ x, x = wr := ⟨_, rfl⟩
        obtain ⟨g', cap', ta', e7, -, c0, z0, -⟩ := HKR.out.level HPL.out HA.out
        simp only [Value.slice.injEq, Option.some.injEq, Addr.mk.injEq, and_true, true_and] at e7
        obtain ⟨rfl, rfl⟩ := e7
        have HK5 := Lib.hid (HKR.out.put (i := lev) HPL.out hlt2 (a := []) (ta := .slice none 0 0) nsX_nil)
        have HNH : Hid (NsX B (w10.setCell ⟨g, lev, none⟩ (.slice none 0 0)) (.slice zo r zc) (halfS ss)) := Lib.hid ((nsX_own HOW.out HR.out.symm).go (by
          obtain ⟨P3, i1, i2, i3, i4⟩ := HKR.out.row
          rw [HPL.out] at i4
          have hgg : ∃ cur, w10.heap[g]? = some (.cells cur 72 (0, 0)) := by
            rcases i4.2 with ⟨e, -⟩ | ⟨g', cap', cur, e, -, hgg, -⟩
            · simp at e
            · simp only [Value.slice.injEq, Option.some.injEq, Addr.mk.injEq, and_true, true_and] at e
              obtain ⟨rfl, rfl⟩ := e
              exact ⟨cur, hgg⟩
          obtain ⟨cur, hgg⟩ := hgg
          exact Ag.set (Nat.le_trans HKR.out.low.1 hbg) hgg KN_lv))
        go_upto_region 22 with (fail)
        obtain ⟨w5, hw5⟩ : ∃ x, x = w10.setCell ⟨g, lev, none⟩ (.slice none 0 0) := ⟨_, rfl⟩
        rw [← hw5] at HK5 HNH ⊢
        clear hw5 c0 z0 HKR HK HNL HNA HX HOW
        have HKB := Lib.hid HK5.out.boxed
        have HNH2 := Lib.hid (HNH.out.go (Ag.set (i := 2) (x := .slice (some ⟨g, 0, none⟩) p rc) HK5.out.low.1 HK5.out.box KN_rk))
        obtain ⟨⟨d0, d1, d2, d3, d4⟩, ⟨f0, f1, f2, f3, f4⟩⟩ := bx5 HK5.out.box
        go_upto_region 23 with (fail)
        obtain ⟨w6, hw6⟩ : ∃ x, x = w5.setCell ⟨bx, 2, none⟩ (.slice (some ⟨g, 0, none⟩) p rc) := ⟨_, rfl⟩
        rw [← hw6] at HKB HNH2 ⊢
        clear hw6 d0 d1 d2 d3 d4 f0 f1 f2 f3 f4 HK5 HNH
        go_wp2_with fail
        go_loopw [14, 73] (fun x y wx => ∃ (b : Int) (i : Nat), i ≤ lev ∧ y = .int .i64 i ∧ x = .int .i64 b ∧ 1 ≤ b ∧ b ≤ 1073741824 ∧ Hid (b = 2 ^ i) ∧ wx = w6) (fun _ y _ => lev - (intOf y).toNat)
        case atStart => exact ⟨1, 0, Nat.zero_le _, rfl, rfl, by omega, by omega, Lib.hid rfl, rfl⟩
        case round =>
          obtain ⟨b, k, hk, rfl, rfl, hb1, hb2, HBP, rfl⟩ := hrel
          by_cases hkl : k < lev
          · have hp2 := pow30 (i := k + 1) (by omega)
            have hbe : b * 2 = 2 ^ (k + 1) := by rw [HBP.out, Int.pow_succ]
            rw [← hbe] at hp2
            have HBE := Lib.hid hbe
            clear hbe
            go_wp2_with fail
            go_roundw
            case rel => exact ⟨b * 2, k + 1, by omega, by go_num, by go_num, by omega, by omega, HBE, by first | rfl | trivial⟩
            case measure => simp [intOf]; omega
          obtain rfl : k = lev := by omega
          have B1 : wr.heap[bx]? = some (.cells #[.int .i64 s.k, .slice ao n c, .slice (some ⟨g, 0, none⟩) p rc, .int .i64 s.n, .int .i64 s.sl] 141 (0, 0)) := HKB.out.box
          have HKC := Lib.hid (HKB.out.slack (s.sl + b))
          have HNC : Hid (NsX B (wr.setCell ⟨bx, 4, none⟩ (.int .i64 (s.sl + b))) (.slice zo r zc) (halfS ss)) := Lib.hid (HNH2.out.go (Ag.set (i := 4) (x := .int .i64 (s.sl + b)) HKB.out.low.1 B1 KN_rk))
          obtain ⟨⟨d0, d1, d2, d3, d4⟩, ⟨f0, f1, f2, f3, f4⟩⟩ := bx5 B1
          have hsl2 : 0 ≤ s.sl + b := by omega
          have hsl3 : Hid (s.sl + b ≤ S + 2 ^ (k + 1)) := Lib.hid (by
            have h1 := HSL1.out
            rw [Int.pow_succ]
            rw [← HBP.out] at h1 ⊢
            omega)
          have HTT : Hid (carryG (lv2.set k []) (s.sl + b) (halfS ss) (k + 1) = T) := Lib.hid (by
            have h1 := carryG_on (lv := s.lv) (sl := s.sl) (l := l) (lev := k) (by rw [← HLV2.out]; exact HA.out) (by rw [HAN.out]; exact ha0)
            rw [← HSS.out, ← HBP.out] at h1
            rw [← HT.out, HLV2.out]
            exact h1.symm)
          have HLEN : Hid (∀ x ∈ lv2.set k [], x.length ≤ 64 ∧ x.Pairwise (· ≤ ·)) := Lib.hid (fun x hx => by
            rcases List.mem_or_eq_of_mem_set hx with h5 | h5
            · exact HLVS.out x (by rw [← HLV2.out]; exact h5)
            · rw [h5]; exact ⟨Nat.zero_le _, List.Pairwise.nil⟩)
          clear B1 HKB HNH2
          go_upto_region 29 with (fail)
          obtain ⟨w12, hw12⟩ : ∃ x, x = wr.setCell ⟨bx, 4, none⟩ (.int .i64 (s.sl + b)) := ⟨_, rfl⟩
          rw [← hw12] at HKC HNC ⊢
          clear hw12 d0 d1 d2 d3 d4 f0 f1 f2 f3 f4
          have B1 : w12.heap[bx]? = some (.cells #[.int .i64 s.k, .slice ao n c, .slice (some ⟨g, 0, none⟩) p rc, .int .i64 s.n, .int .i64 (s.sl + b)] 141 (0, 0)) := HKC.out.box
          obtain ⟨⟨d0, d1, d2, d3, d4⟩, -⟩ := bx5 B1
          clear B1
          go_wp2_with fail
          refine (HREC.out HLT.out _ _ ⟨s.k, s.tl, lv2.set k [], s.n, s.sl + b⟩ (halfS ss) _ (by rw [← HLV2.out]; exact List.length_set) ⟨HKC.out.rk, HNC.out, Nat.le_trans hB HKC.out.low.2, ?c1, ?c2, HLEN.out, ?c3, hsl2, hsl3.out⟩).mono ?_
          case c1 => show (lv2.set k []).length ≤ 30; rw [List.length_set, HLV2.out, HL.out]; exact hL30
          case c2 => have := HLT.out; rw [HL.out] at this; omega
          case c3 => rw [HR.out, HHL.out]; omega
          rintro e w13 ⟨v13, rfl, hrk13, hb13⟩
          rw [show carryG (Rk.mk s.k s.tl (lv2.set k []) s.n (s.sl + b)).lv (Rk.mk s.k s.tl (lv2.set k []) s.n (s.sl + b)).sl (halfS ss) (k + 1) = T from HTT.out] at hrk13
          have hrk14 : RkX B w13 v13 ⟨s.k, s.tl, T.1, s.n, T.2⟩ := hrk13
          obtain ⟨o1, n1, c1, o2, n2, c2, rfl, hrk15⟩ := rkX_shape hrk14
          have hrk16 : RkX B w13 (.agg #[.int .i64 s.k, .slice o1 n1 c1, .slice o2 n2 c2, .int .i64 s.n, .int .i64 T.2]) ⟨s.k, s.tl, T.1, s.n, T.2⟩ := hrk15
          have B2 := (hb13.block _ (Array.getElem?_eq_some_iff.1 HKC.out.res).1).trans HKC.out.res
          have hb14 := HKC.out.bel.trans (hb13.mono HKC.out.low.2)
          have HRK := Lib.hid (hrk16.go (Ag.stores5 (x0 := .int .i64 s.k) (x1 := .slice o1 n1 c1) (x2 := .slice o2 n2 c2) (x3 := .int .i64 s.n) (x4 := .int .i64 T.2) (show B ≤ bx + 1 by omega) B2 KL_rk))
          obtain ⟨⟨q0, q1, q2, q3, q4⟩, ⟨f0, f1, f2, f3, f4⟩⟩ := bx5 B2
          have hst := bx5_store (.int .i64 s.k) (.slice o1 n1 c1) (.slice o2 n2 c2) (.int .i64 s.n) (.int .i64 T.2) B2
          obtain ⟨⟨s0, s1, s2, s3, s4⟩, -⟩ := bx5 hst
          have HBF := Lib.hid (bx5_below (.int .i64 s.k) (.slice o1 n1 c1) (.slice o2 n2 c2) (.int .i64 s.n) (.int .i64 T.2) (show bx ≤ bx + 1 by omega) hb14)
          clear hst B2 hb13 hb14 hrk13 hrk14 hrk15 hrk16 d0 d1 d2 d3 d4
          go_wp2_with fail
          refine bodyPost_ret (v := .agg #[.int .i64 s.k, .slice o1 n1 c1, .slice o2 n2 c2, .int .i64 s.n, .int .i64 T.2]) (by simp [results, Try.results155, go_sem, s0, s1, s2, s3, s4]) rfl ?_
          show CPost _ _ _ _ _ _
          exact ⟨_, rfl, HRK.out, by rw [HBX.out]; exact HBF.out⟩
/-- Carried. -/
theorem Carried_any : ∀ (m B lev : Nat) (S : Int) (v lval : Value) (s : Rk) (l : List Int) (w : World), s.lv.length - lev ≤ m → CPre B lev S w v s lval l → 0 ≤ S ∧ S ≤ 4611686018427387904 →
    Calls Try.prog 155 #[v, lval, .int .i64 lev] w (CPost B w s (carryG s.lv s.sl l lev))
  | 0, B, lev, S, v, lval, s, l, w, hm, h, hS => Carried_step B lev S v lval s l w h hS (fun hlt => by omega)
  | m + 1, B, lev, S, v, lval, s, l, w, hm, h, hS => Carried_step B lev S v lval s l w h hS (fun hlt v' lval' s' l' w' hl hp => by
      have := Carried_any m B (lev + 1) S v' lval' s' l' w' (by rw [hl]; omega) hp hS
      rwa [show ((lev + 1 : Nat) : Int) = (lev : Int) + 1 by push_cast; rfl] at this)
end Go.Proofs.Ytcljeedmiobepaa.Rk
