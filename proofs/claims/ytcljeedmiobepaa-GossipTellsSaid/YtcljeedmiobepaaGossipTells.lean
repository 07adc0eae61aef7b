/-
  The walk of the law GossipTells.
-/
import Derived.Test.YtcljeedmiobepaaGos3
import Derived.Test.YtcljeedmiobepaaClm2
import Derived.Test.YtcljeedmiobepaaClMerged
import Derived.Test.YtcljeedmiobepaaSameNd
namespace Go.Proofs.Ytcljeedmiobepaa.GossipTells
open Go.RowKit Go.Gh Go.Proofs.Ytcljeedmiobepaa.Nod Go.Proofs.Ytcljeedmiobepaa.Gos
set_option linter.unusedVariables false
theorem own_other {w w' : World} {B B' k k' n m : Nat} {T T' : TypeId} {v u : Value} {xs ys : List Value} (h1 : w.ownsRow B T k v n xs) (h2 : w.ownsRow B' T' k' u m ys) (hT : T ≠ T') (hg : w.grownBy w' u.ownBlock) : w'.ownsRow B T k v n xs := by
  refine ⟨h1.1, ?_⟩
  rcases h1.2 with h | ⟨g, cap, cur, rfl, hb, hgg, rest⟩
  · exact Or.inl h
  · refine Or.inr ⟨g, cap, cur, rfl, hb, ?_, rest⟩
    have hne := own_block_ne h2 hgg (fun e => hT e.symm)
    rw [hg.block g (Array.getElem?_eq_some_iff.1 hgg).1 (fun e => hne e.symm)]
    exact hgg
def ClO (w0 : World) (_ : World) (x : Cl) (c : List Value) : Prop := ClR w0 x c
theorem clO_grow {w0 : World} {T : TypeId} {k B : Nat} : Grow (ClO w0) T k B := fun w w' a c u m us h _ _ => h
theorem seen_snoc : ∀ (L : List Sn) (p : Option Sn) (x : Sn), seenGo p (L ++ [x]) = (seenGo p L || (match L.getLast?.or p with | none => false | some q => leB x.nm q.nm))
  | [], none, x => rfl
  | [], some q, x => by simp [seenGo]
  | y :: L, none, x => by
    rw [List.cons_append, seen_none, seen_none, seen_snoc L (some y) x]
    cases L with
    | nil => rfl
    | cons z L =>
      obtain ⟨l, hl⟩ : ∃ l, (z :: L).getLast? = some l := by
        cases h : (z :: L).getLast? with
        | none => simp at h
        | some l => exact ⟨l, rfl⟩
      rw [List.getLast?_cons_cons, hl]
      rfl
  | y :: L, some q, x => by
    rw [List.cons_append, seen_some, seen_some, seen_snoc L (some y) x, Bool.or_assoc]
    cases L with
    | nil => rfl
    | cons z L =>
      obtain ⟨l, hl⟩ : ∃ l, (z :: L).getLast? = some l := by
        cases h : (z :: L).getLast? with
        | none => simp at h
        | some l => exact ⟨l, rfl⟩
      rw [List.getLast?_cons_cons, hl]
      rfl
theorem seen_take {d : List Sn} {k : Nat} {x : Sn} (h : d[k]? = some x) : seenGo none (d.take (k + 1)) = (seenGo none (d.take k) || (match (match k with | 0 => none | j + 1 => d[j]?) with | none => false | some q => leB x.nm q.nm)) := by
  obtain ⟨h1, h2⟩ := List.getElem?_eq_some_iff.1 h
  rw [List.take_succ_eq_append_getElem h1, h2, seen_snoc]
  congr 1
  cases k with
  | zero => rfl
  | succ j =>
    have hj : j < d.length := by omega
    rw [List.getLast?_take]
    simp [hj]
theorem lacks_take {d : List Sn} {k : Nat} {z : Sn} {x : Cl} (h : d[k]? = some z) : lacksF (d.take (k + 1)) x = (lacksF (d.take k) x && !(nmEq z.nm x.nm && decide (x.ver < z.ver))) := by
  obtain ⟨h1, h2⟩ := List.getElem?_eq_some_iff.1 h
  unfold lacksF
  rw [List.take_succ_eq_append_getElem h1, h2, List.all_append]
  simp
theorem exists_boundC : ∀ (L : List Cl), ∃ f, 20 ≤ f ∧ ∀ x ∈ L, x.nm.size ≤ f
  | [] => ⟨20, Nat.le_refl _, fun x hx => by simp at hx⟩
  | x :: L => by
    obtain ⟨f, hf0, hf⟩ := exists_boundC L
    refine ⟨max f x.nm.size, by omega, fun y hy => ?_⟩
    rcases List.mem_cons.1 hy with rfl | hy
    · exact Nat.le_max_right _ _
    · exact Nat.le_trans (hf y hy) (Nat.le_max_left _ _)
/-- How what was seen is judged, as far as place j. -/
def kF (d : List Sn) (m j : Nat) : Int := if 20 < m then 2 else if seenGo none (d.take j) = true then 5 else 0
def prevLe (d : List Sn) (j : Nat) (x : Sn) : Bool := match (match j with | 0 => none | i + 1 => d[i]?) with | none => false | some q => leB x.nm q.nm
theorem prevLe_succ {d : List Sn} {j : Nat} {x q : Sn} (h : d[j]? = some q) : prevLe d (j + 1) x = leB x.nm q.nm := by
  unfold prevLe
  simp only [h]
theorem kF_step {d : List Sn} {m j : Nat} {x : Sn} (h : d[j]? = some x) : kF d m (j + 1) = if ((kF d m j == 0) && prevLe d j x) = true then 5 else kF d m j := by
  have hs : seenGo none (d.take (j + 1)) = (seenGo none (d.take j) || prevLe d j x) := seen_take h
  unfold kF
  rw [hs]
  by_cases hb : 20 < m
  · rw [if_pos hb, if_pos hb]; rfl
  · rw [if_neg hb, if_neg hb]
    cases seenGo none (d.take j) <;> cases prevLe d j x <;> rfl
def SwF (w' : World) (B : Nat) (a b : List Cl) (va vb : Value) (g : Int) : Prop :=
  ((clMerge a b).2 ≠ 0 ∧ g = (clMerge a b).2 ∧ va = .slice none 0 0 ∧ vb = .slice none 0 0) ∨
    (clMerge a b = (mrgC a b, 0) ∧ g = 0 ∧ Ow (ClB 27 B) 4 27 B w' va (mrgC a b) ∧ Ow (ClB 27 B) 4 27 B w' vb (mrgC a b))
theorem sw_of {w w' : World} {a b : List Cl} {e : Ending} (h : SwPost w a b e w') : Below w.heap.size w w' ∧ ∃ xo xn xc yo yn yc g, e = .returned (.tuple #[.slice xo xn xc, .slice yo yn yc, .int .i64 g]) ∧ SwF w' w.heap.size a b (.slice xo xn xc) (.slice yo yn yc) g := by
  obtain ⟨hb, h⟩ := h
  refine ⟨hb, ?_⟩
  rcases h with ⟨h1, rfl⟩ | ⟨h1, va, vb, rfl, h2, h3⟩
  · exact ⟨none, 0, 0, none, 0, 0, _, rfl, Or.inl ⟨h1, rfl, rfl, rfl⟩⟩
  · obtain ⟨xo, xc, rfl, _⟩ := h2.shape
    obtain ⟨yo, yc, rfl, _⟩ := h3.shape
    exact ⟨xo, _, xc, yo, _, yc, 0, rfl, Or.inr ⟨h1, rfl, h2, h3⟩⟩
theorem SwF.below {w w' : World} {B : Nat} {a b : List Cl} {va vb : Value} {g : Int} (h : SwF w B a b va vb g) (hb : Below w.heap.size w w') : SwF w' B a b va vb g := by
  rcases h with h | ⟨h1, h2, h3, h4⟩
  · exact Or.inl h
  · exact Or.inr ⟨h1, h2, h3.below clB_mono hb, h4.below clB_mono hb⟩
set_option maxHeartbeats 8000000 in
set_option maxRecDepth 100000 in
theorem walk (v0 v1 v2 : Value) (w : World) (h0 : IsClaims64 w v0) (h1 : IsClaims64 w v1) (h2 : IsSeens w v2) :
    Calls Try.prog 4 #[v0, v1, v2] w fun e w' => e = .returned (.bool true) ∧ Below w.heap.size w w' := by
  obtain ⟨A, hA, ha64, hal⟩ := h0
  obtain ⟨B, hB, hb64, hbl⟩ := h1
  obtain ⟨d, hD⟩ := h2
  obtain ⟨ao, c, rfl, hnc, hc⟩ := hA.shape
  obtain ⟨bo, cb, rfl, hob, hcb⟩ := hB.shape
  obtain ⟨co, cd, rfl, hod, hcd⟩ := hD.shape
  obtain ⟨n, hn⟩ : ∃ n, A.length = n := ⟨_, rfl⟩
  obtain ⟨o, ho⟩ : ∃ o, B.length = o := ⟨_, rfl⟩
  obtain ⟨m, hm⟩ : ∃ m, d.length = m := ⟨_, rfl⟩
  rw [hn] at hA hnc hal ⊢
  rw [ho] at hB hob hbl ⊢
  rw [hm] at hD hod ⊢
  have HNA := Lib.hid hn
  have HNB := Lib.hid ho
  have HND := Lib.hid hm
  have HA := Lib.hid hA
  have HB := Lib.hid hB
  have HD := Lib.hid hD
  have HA64 := Lib.hid ha64
  have HB64 := Lib.hid hb64
  have HBL := Lib.hid hbl
  obtain ⟨E1, hE1⟩ : ∃ E, claimsF A = E := ⟨_, rfl⟩
  obtain ⟨R1, hR1⟩ : ∃ R, clDigest A = R := ⟨_, rfl⟩
  obtain ⟨R2, hR2⟩ : ∃ R, clDelta A d = R := ⟨_, rfl⟩
  have HE1 := Lib.hid hE1
  have HR1 := Lib.hid hR1
  have HR2 := Lib.hid hR2
  obtain ⟨s1, e1⟩ := R1
  obtain ⟨m1, f1⟩ := R2
  clear hn ho hm hA hB hD ha64 hb64 hal hbl hE1 hR1 hR2
  go_enter Try.func4, Try.ntmps4
  go_wp2_with fail
  refine (digest_any _ A _ HA.out HA64.out).mono ?_
  rw [HR1.out]
  rintro e w1 ⟨va, rfl, HO1, hb1⟩
  have HOS := Lib.hid HO1
  have HB1 := Lib.hid hb1
  obtain ⟨so, sc, rfl, -, -⟩ := HO1.shape
  clear HO1 hb1
  go_wp2_with fail
  refine (delta_any _ _ A d _ (HA.out.below clR_mono HB1.out) (HD.out.below snR_mono HB1.out)).mono ?_
  rw [HR2.out]
  rintro e w2 ⟨vb, rfl, HO2, hb2⟩
  have HOM := Lib.hid HO2
  have HB2 := Lib.hid (HB1.out.trans (hb2.mono HB1.out.size))
  have HOS2 := Lib.hid (HOS.out.below snR_mono hb2)
  obtain ⟨mo, mc, rfl, -, -⟩ := HO2.shape
  clear HO2 hb2 HOS
  go_wp2_with fail
  refine (swap_any _ _ A B _ (HA.out.below clR_mono HB2.out) (HB.out.below clR_mono HB2.out) HA64.out HB64.out).mono ?_
  intro e w3 hsw
  obtain ⟨hb3, xo, xn, xc, yo, yn, yc, g, rfl, hsf⟩ := sw_of hsw
  have HSW := Lib.hid hsf
  have HB3 := Lib.hid (HB2.out.trans (hb3.mono HB2.out.size))
  have HOS3 := Lib.hid (HOS2.out.below snR_mono hb3)
  have HOM3 := Lib.hid (HOM.out.below clB_mono hb3)
  clear hb3 hsw hsf HOS2 HOM
  go_wp2_with fail
  refine (claimsfault_any _ A _ (HA.out.below clR_mono HB3.out)).mono ?_
  rw [HE1.out]
  rintro e w4 ⟨rfl, hb4⟩
  have HB4 := Lib.hid (HB3.out.trans (hb4.mono HB3.out.size))
  have HOS4 := Lib.hid (HOS3.out.below snR_mono hb4)
  have HOM4 := Lib.hid (HOM3.out.below clB_mono hb4)
  have HSW4 := Lib.hid (HSW.out.below hb4)
  clear hb4 HOS3 HOM3 HSW
  by_cases hz : E1 = 0
  case neg =>
    have t1 : (E1 != 0) = true := by rw [bne_iff_ne]; exact hz
    have te : (E1 == E1) = true := by simp
    have h1 : clDigest A = ([], E1) := by unfold clDigest; rw [HE1.out, if_neg hz]
    have h2 : clDelta A d = ([], E1) := by unfold clDelta; rw [HE1.out, if_neg hz]
    have h3 : clMerge A B = ([], E1) := by unfold clMerge; rw [HE1.out, if_neg hz]
    rw [HR1.out] at h1
    rw [HR2.out] at h2
    obtain ⟨rfl, rfl⟩ := Prod.mk.injEq .. ▸ h1
    obtain ⟨rfl, rfl⟩ := Prod.mk.injEq .. ▸ h2
    rcases HSW4.out with ⟨_, k2, k3, k4⟩ | ⟨k1, _⟩
    · rw [h3] at k2
      dsimp only at k2
      subst k2
      simp at k3 k4
      obtain ⟨rfl, rfl, rfl⟩ := k3
      obtain ⟨rfl, rfl, rfl⟩ := k4
      clear hz h1 h2 h3
      go_wp2_with fail
      go_ret
      exact ⟨rfl, HB4.out⟩
    · rw [h3] at k1
      exact absurd (congrArg Prod.snd k1) hz
  subst hz
  have hn20 : n ≤ 20 := by have := (claims_zero HE1.out).1; rw [HNA.out] at this; exact this
  have HGA := Lib.hid (good_of HE1.out)
  have h1 : clDigest A = (digF A, 0) := by unfold clDigest; rw [HE1.out, if_pos rfl]
  rw [HR1.out] at h1
  obtain ⟨rfl, rfl⟩ := Prod.mk.injEq .. ▸ h1
  have HDE : Hid ((m1, f1) = if seenF d = 0 then (deltaF A d, 0) else ([], seenF d)) := Lib.hid (by rw [← HR2.out]; unfold clDelta; rw [HE1.out, if_pos rfl])
  clear h1 HR1 HR2
  go_wp2_with fail
  obtain ⟨wq, rfl⟩ : ∃ x : World, x = w4 := ⟨_, rfl⟩
  go_loopw [15, 16, 82] (fun us uw i wr => ∃ (k p : Nat), k ≤ n ∧ p ≤ k ∧ i = .int .i64 k ∧ Hid ((deltaF (A.take k) d).length = p) ∧ Hid (Ow SnR 2 47 wq.heap.size wr us (digF (A.take k))) ∧ Hid (Ow (ClO w) 4 27 wq.heap.size wr uw (deltaF (A.take k) d)) ∧ Below wq.heap.size wq wr) (fun _ _ i _ => n - (intOf i).toNat)
  case atStart => exact ⟨0, 0, Nat.zero_le _, Nat.le_refl _, rfl, Lib.hid rfl, Lib.hid Ow.nil, Lib.hid Ow.nil, Below.refl _ _⟩
  case round =>
    obtain ⟨k, p, hk, hpk, rfl, HP, HOs, HOw, hbel⟩ := hrel
    have hsz := hbel.size
    have HBWr := Lib.hid (HB4.out.trans (hbel.mono HB4.out.size))
    by_cases hlt : k < n
    · obtain ⟨x, hx⟩ : ∃ x, A[k]? = some x := ⟨_, List.getElem?_eq_getElem (by rw [HNA.out]; exact hlt)⟩
      obtain ⟨hx20, hxt20⟩ := HGA.out x (List.mem_of_getElem? hx)
      have HX64 : Hid ((Lit.int .i64 x.ver).wf = true) := Lib.hid (HA64.out x (List.mem_of_getElem? hx))
      obtain ⟨b, off, cs, rfl, ⟨t, rfl, htx⟩, _, hck⟩ := HA.out.get hx
      have HX := Lib.hid hx
      have HDT := Lib.hid (dig_take hx)
      have HPL : Hid ((digF (A.take k)).length = k) := Lib.hid (dig_len A k (by rw [HNA.out]; exact hk))
      have hlt0 := cell_lt (hck 0 _ rfl)
      have c0 := (HBWr.out.cell (p := ⟨b, off + k * 4 + 0, none⟩) hlt0).trans (hck 0 _ rfl)
      have c1 := (HBWr.out.cell (p := ⟨b, off + k * 4 + 1, none⟩) hlt0).trans (hck 1 _ rfl)
      have c2 := (HBWr.out.cell (p := ⟨b, off + k * 4 + 2, none⟩) hlt0).trans (hck 2 _ rfl)
      have c3 := (HBWr.out.cell (p := ⟨b, off + k * 4 + 3, none⟩) hlt0).trans (hck 3 _ rfl)
      rw [Nat.add_zero] at c0
      have HTX := Lib.hid htx
      obtain ⟨ta, tc, rfl, -, -, -⟩ := htx.1.shape
      obtain ⟨uo, uc, rfl, hu1, hu2⟩ := Sp.shapeN HOs.out.sp HPL.out
      obtain ⟨qo, qc, rfl, hq1, hq2⟩ := Sp.shapeN HOw.out.sp HP.out
      obtain ⟨P, hP1, hP2, hP3, hP4⟩ := HOs.out
      obtain ⟨Q, hQ1, hQ2, hQ3, hQ4⟩ := HOw.out
      rw [HPL.out] at hP4
      rw [HP.out] at hQ4
      have HPP := Lib.hid (And.intro hP1 (And.intro hP2 hP3))
      have HQQ := Lib.hid (And.intro hQ1 (And.intro hQ2 hQ3))
      have HPW := Lib.hid hP4
      have HQW := Lib.hid hQ4
      clear hck hx htx hP1 hP2 hP3 hP4 hQ1 hQ2 hQ3 hQ4
      go_upto_region 12 with (fail)
      obtain ⟨wA, hwA⟩ : ∃ wA, wA = wr.alloc (Obj.cells #[.int .i64 x.ver, .int .i64 x.st, .string x.nm, .slice ta x.tk.length tc] 27) := ⟨_, rfl⟩
      have hbox : wA.heap[wr.heap.size]? = some (.cells #[.int .i64 x.ver, .int .i64 x.st, .string x.nm, .slice ta x.tk.length tc] 27 (0, 0)) := by rw [hwA]; exact heap_alloc_new wr _
      have hbA : Below wr.heap.size wr wA := by rw [hwA]; exact (Below.refl _ _).alloc (Nat.le_refl _) _
      have hsA : wr.heap.size < wA.heap.size := by rw [hwA]; simp
      rw [← hwA]
      have HBA := Lib.hid (hbel.trans (hbA.mono hsz))
      have hO4 := own_below HPW.out hbA
      have HQA := Lib.hid (own_below HQW.out hbA)
      have HBOX := Lib.hid hbox
      obtain ⟨⟨d0, d1, d2, d3⟩, -⟩ := bx4 hbox
      have hqb : ∀ g', (Value.slice uo k uc).ownBlock = some g' → g' < wr.heap.size := fun g' hg' => (HPW.out.lt g' hg').2
      have HQB := Lib.hid hqb
      generalize wr.heap.size = bx at *
      clear hwA hbox hbA c0 c1 c2 c3 hqb
      go_wp2_with (at_builtin; refine append1 [.string x.nm, .int .i64 x.ver] elSn rfl _ _ rfl hO4 HBA.out HBA.out.size rfl rfl rfl (by intro x hx; simp at hx; rcases hx with rfl | rfl <;> rfl) ?c4 ?c5 ?_)
      case c4 => omega
      case c5 => omega
      intro v5 w5 hown5 hbel5 hgr5
      have HS5 : Hid (Ow SnR 2 47 wq.heap.size w5 v5 (digF (A.take (k + 1)))) := Lib.hid (by
        rw [HDT.out]
        have hp3 : ∀ q ∈ P, SnR wA q.1 q.2 := HPP.out.2.2
        exact Ow.snoc snR_grow HPP.out.1 HPP.out.2.1 hp3 hO4 HPL.out.symm hgr5 hown5 rfl ⟨rfl, by show x.nm.size ≤ _; omega, HX64.out⟩)
      have HQ5 : Hid (w5.ownsRow wq.heap.size 27 4 (.slice qo p qc) p (pc Q)) := Lib.hid (own_other HQA.out hO4 (by decide) hgr5)
      have HB5 := Lib.hid hbel5
      have hx5 : w5.heap[bx]? = _ := (hgr5.block bx hsA (fun e => by have := HQB.out bx e.symm; omega)).trans HBOX.out
      have HX5 := Lib.hid hx5
      have hl5 : bx < w5.heap.size := (Array.getElem?_eq_some_iff.1 hx5).1
      obtain ⟨vo, vc, rfl, -, -, -⟩ := own_shape hown5
      clear hO4 hown5 hgr5 hbel5 d0 d1 d2 d3 hx5
      go_wp2_with fail
      go_loopw [19, 97] (fun t i wr => ∃ (j : Nat), j ≤ m ∧ i = .int .i64 j ∧ t = .bool (lacksF (d.take j) x) ∧ Below w5.heap.size w5 wr) (fun _ i _ => m - (intOf i).toNat)
      case atStart => exact ⟨0, Nat.zero_le _, rfl, rfl, Below.refl _ _⟩
      case round =>
        obtain ⟨j, hj, rfl, rfl, hb6⟩ := hrel
        obtain ⟨⟨d0, d1, d2, d3⟩, -⟩ := bx4 ((hb6.block bx hl5).trans HX5.out)
        have HBW6 := Lib.hid (HB5.out.trans (hb6.mono HB5.out.size))
        by_cases hlt2 : j < m
        · obtain ⟨z, hz⟩ : ∃ z, d[j]? = some z := ⟨_, List.getElem?_eq_getElem (by rw [HND.out]; exact hlt2)⟩
          obtain ⟨b2, off2, cs2, rfl, ⟨rfl, _⟩, _, hck⟩ := (HD.out.below snR_mono (HB4.out.trans (HBW6.out.mono HB4.out.size))).get hz
          have z0 := hck 0 _ rfl
          have z1 := hck 1 _ rfl
          rw [Nat.add_zero] at z0
          have hlk := lacks_take (x := x) hz
          have HLK : Hid (lacksF (d.take (j + 1)) x = (lacksF (d.take j) x && !((z.nm.toList == x.nm.toList) && decide (x.ver < z.ver)))) := Lib.hid hlk
          have hbA6 := hb6.alloc hb6.size (Obj.cells #[.string z.nm, .int .i64 z.ver] 47)
          go_upto_region 17 with (fail)
          obtain ⟨wA6, hwA6⟩ : ∃ wA6, wA6 = wr.alloc (Obj.cells #[.string z.nm, .int .i64 z.ver] 47) := ⟨_, rfl⟩
          have hbz : wA6.heap[wr.heap.size]? = some (.cells #[.string z.nm, .int .i64 z.ver] 47 (0, 0)) := by rw [hwA6]; exact heap_alloc_new wr _
          rw [← hwA6]
          rw [← hwA6] at hbA6
          obtain ⟨⟨y0, y1⟩, -⟩ := bx2 hbz
          have hl6 := cell_lt d0
          have hbB6 : Below wr.heap.size wr wA6 := by rw [hwA6]; exact (Below.refl _ _).alloc (Nat.le_refl _) _
          replace d0 := (hbB6.cell (p := ⟨bx, 0, none⟩) hl6).trans d0
          replace d2 := (hbB6.cell (p := ⟨bx, 2, none⟩) hl6).trans d2
          generalize wr.heap.size = bz at *
          clear hwA6 hbz hbB6 z0 z1 d1 d3
          generalize lacksF (d.take j) x = l0 at *
          clear hck hz hlk
          by_cases he : z.nm.toList = x.nm.toList
          · have he2 : (z.nm.toList == x.nm.toList) = true := by rw [he]; simp
            by_cases hv : x.ver < z.ver
            · have HN : Hid (lacksF (d.take (j + 1)) x = false) := Lib.hid (by rw [HLK.out, he2, decide_eq_true hv]; simp)
              clear he2
              go_wp2_with fail
              go_roundw
              case rel => exact ⟨j + 1, by omega, by go_num, by rw [HN.out], hbA6⟩
              case measure => simp [intOf]; omega
            · have HN : Hid (lacksF (d.take (j + 1)) x = l0) := Lib.hid (by rw [HLK.out, he2, decide_eq_false hv]; simp)
              clear he2
              go_wp2_with fail
              go_roundw
              case rel => exact ⟨j + 1, by omega, by go_num, by rw [HN.out], hbA6⟩
              case measure => simp [intOf]; omega
          · have he2 : (z.nm.toList == x.nm.toList) = false := beq_eq_false_iff_ne.2 he
            have HN : Hid (lacksF (d.take (j + 1)) x = l0) := Lib.hid (by rw [HLK.out, he2]; simp)
            clear he2
            go_wp2_with fail
            go_roundw
            case rel => exact ⟨j + 1, by omega, by go_num, by rw [HN.out], hbA6⟩
            case measure => simp [intOf]; omega
        obtain rfl : j = m := by omega
        obtain ⟨Lk, hLk⟩ : ∃ Lk, lacksF d x = Lk := ⟨_, rfl⟩
        have htk : d.take j = d := List.take_of_length_le (by rw [HND.out]; exact Nat.le_refl _)
        rw [htk, hLk]
        have HLK := Lib.hid hLk
        have HS6 := Lib.hid (HS5.out.below snR_mono hb6)
        have hQ6 := own_below HQ5.out hb6
        clear htk hLk hb6
        cases Lk with
        | false =>
          have hrs := delta_skip HX.out HLK.out
          have HP2 : Hid ((deltaF (A.take (k + 1)) d).length = p) := Lib.hid (by rw [hrs]; exact HP.out)
          have HO2 : Hid (Ow (ClO w) 4 27 wq.heap.size wr (.slice qo p qc) (deltaF (A.take (k + 1)) d)) := Lib.hid (by
            rw [hrs]
            exact ⟨Q, HQQ.out.1, HQQ.out.2.1, HQQ.out.2.2, by rw [HP.out]; exact hQ6⟩)
          clear hrs hQ6 d0 d1 d2 d3
          go_wp2_with fail
          go_roundw
          case rel => exact ⟨k + 1, p, by omega, by omega, by go_num, HP2, HS6, HO2, HBW6.out⟩
          case measure => simp [intOf]; omega
        | true =>
          have hrs := delta_take HX.out HLK.out
          have HRS := Lib.hid hrs
          have HLN : Hid ((deltaF (A.take (k + 1)) d).length = p + 1) := Lib.hid (by rw [hrs, List.length_append, HP.out]; rfl)
          clear hrs
          go_wp2_with (at_builtin; refine append1 [.int .i64 x.ver, .int .i64 x.st, .string x.nm, .slice ta x.tk.length tc] elCl rfl _ _ rfl hQ6 HBW6.out HBW6.out.size rfl rfl rfl (by intro x hx; simp at hx; rcases hx with rfl | rfl | rfl | rfl <;> rfl) ?c4 ?c5 ?_)
          case c4 => omega
          case c5 => omega
          intro v7 w7 hown7 hbel7 hgr7
          have HON : Hid (Ow (ClO w) 4 27 wq.heap.size w7 v7 (deltaF (A.take (k + 1)) d)) := Lib.hid (by
            rw [HRS.out]
            have hp3 : ∀ q ∈ Q, ClO w wr q.1 q.2 := HQQ.out.2.2
            exact Ow.snoc clO_grow HQQ.out.1 HQQ.out.2.1 hp3 hQ6 HP.out.symm hgr7 hown7 rfl ⟨_, rfl, HTX.out⟩)
          have HS7 : Hid (Ow SnR 2 47 wq.heap.size w7 (.slice vo (k + 1) vc) (digF (A.take (k + 1)))) := Lib.hid (by
            obtain ⟨P2, g1, g2, g3, g4⟩ := HS6.out
            exact ⟨P2, g1, g2, g3, own_other g4 hQ6 (by decide) hgr7⟩)
          have HB7 := Lib.hid hbel7
          obtain ⟨zo, zc, rfl, -, -, -⟩ := own_shape hown7
          clear hQ6 hown7 hgr7 hbel7 d0 d1 d2 d3
          go_wp2_with fail
          go_roundw
          case rel => exact ⟨k + 1, p + 1, by omega, by omega, by go_num, HLN, HS7, HON, HB7.out⟩
          case measure => simp [intOf]; omega
    obtain rfl : k = n := by omega
    have hAall : A.take k = A := List.take_of_length_le (by rw [HNA.out]; exact Nat.le_refl _)
    have HSQ : Hid (Sp SnR 2 wr u15 (digF A)) := Lib.hid (by have := HOs.out.sp; rwa [hAall] at this)
    have HWQ : Hid (Sp ClR 4 wr u16 (deltaF A d)) := Lib.hid (by
      have h := HOw.out.sp
      rw [hAall] at h
      obtain ⟨P, h1, h2, h3, h4⟩ := h
      exact ⟨P, h1, h2, fun q hq => clR_mono _ _ _ _ (h3 q hq) HBWr.out, h4⟩)
    have HOS5 := Lib.hid (HOS4.out.below snR_mono hbel)
    have HOM5 := Lib.hid (HOM4.out.below clB_mono hbel)
    have HSW5 := Lib.hid (HSW4.out.below hbel)
    have t0 : ((0 : Int) != 0) = false := rfl
    clear HOs HOw HOS4 HOM4 HSW4 hbel hAall
    obtain ⟨qo, qc, rfl, -, -⟩ := HWQ.out.shape
    go_wp2_with fail
    refine (eqseen_any _ _ (digF A) _ HOS5.out.sp HSQ.out).mono ?_
    rintro e w6 ⟨rfl, hb6⟩
    have HB6 := Lib.hid (HBWr.out.trans (hb6.mono HBWr.out.size))
    have HOM6 := Lib.hid (HOM5.out.below clB_mono hb6)
    have HSW6 := Lib.hid (HSW5.out.below hb6)
    have HWQ6 := Lib.hid (HWQ.out.below clR_mono hb6)
    clear hb6 HSQ HOS5 HOM5 HSW5 HWQ
    have HSQz := HB6.out.size
    go_upto_if 131 with (fail)
    go_cut [22] (fun t wx => t = .int .i64 (kF d m 0) ∧ wx = w6)
    case first =>
      by_cases hbig : 20 < m
      · have hk0 : kF d m 0 = 2 := if_pos hbig
        have HK := Lib.hid hk0
        clear hk0
        go_wp2_with fail
        go_meet
        exact ⟨by rw [HK.out], rfl⟩
      · have hk0 : kF d m 0 = 0 := by unfold kF; rw [if_neg hbig]; rfl
        have HK := Lib.hid hk0
        clear hk0
        go_wp2_with fail
        go_meet
        exact ⟨by rw [HK.out], rfl⟩
    obtain ⟨rfl, hwc⟩ := hcut
    subst hwc
    obtain ⟨w6, rfl⟩ : ∃ x : World, x = wc := ⟨_, rfl⟩
    go_wp2_with fail
    go_loopw [22, 134] (fun t i wr => ∃ (j : Nat) (kc : Int), j ≤ m ∧ i = .int .i64 j ∧ t = .int .i64 kc ∧ Hid (kc = kF d m j) ∧ Below w6.heap.size w6 wr) (fun _ i _ => m - (intOf i).toNat)
    case atStart => exact ⟨0, _, Nat.zero_le _, rfl, rfl, Lib.hid rfl, Below.refl _ _⟩
    case round =>
      obtain ⟨j, kc, hj, rfl, rfl, HKC, hb7⟩ := hrel
      have HB7 := Lib.hid (HB6.out.trans (hb7.mono HB6.out.size))
      by_cases hlt2 : j < m
      · obtain ⟨x, hx⟩ : ∃ x, d[j]? = some x := ⟨_, List.getElem?_eq_getElem (by rw [HND.out]; exact hlt2)⟩
        obtain ⟨b, off, cs, rfl, ⟨rfl, _⟩, _, hck⟩ := (HD.out.below snR_mono HB7.out).get hx
        have HDr := Lib.hid (HD.out.below snR_mono HB7.out)
        have HX := Lib.hid hx
        have x0 := hck 0 _ rfl
        rw [Nat.add_zero] at x0
        obtain ⟨D, hDD⟩ : ∃ D, ((kc == 0) && prevLe d j x) = D := ⟨_, rfl⟩
        have HDD := Lib.hid hDD
        have HST : Hid (kF d m (j + 1) = if D = true then 5 else kc) := Lib.hid (by rw [← hDD, HKC.out]; exact kF_step hx)
        clear hck hx hDD
        go_wp2_with fail
        go_cut [156] (fun t wx => t = .bool D ∧ Below wr.heap.size wr wx)
        case first =>
          by_cases hkz : kc = 0
          case neg =>
            have t1 : (kc == 0) = false := beq_eq_false_iff_ne.2 hkz
            have hDf : D = false := by rw [← HDD.out, t1]; rfl
            subst hDf
            clear hkz
            go_quiet (fail)
            go_wp2
            go_meet
            exact ⟨rfl, below_drewN (Below.refl _ _) _⟩
          subst hkz
          have t1 : ((0 : Int) == 0) = true := rfl
          rcases Nat.eq_zero_or_pos j with rfl | hjp
          · have hDf : D = false := HDD.out.symm
            subst hDf
            go_quiet (fail)
            go_wp2
            go_meet
            exact ⟨rfl, below_drewN (Below.refl _ _) _⟩
          obtain ⟨j, rfl⟩ : ∃ i, j = i + 1 := ⟨j - 1, by omega⟩
          obtain ⟨q, hq⟩ : ∃ q, d[j]? = some q := ⟨_, List.getElem?_eq_getElem (by rw [HND.out]; omega)⟩
          obtain ⟨b2, off2, cs2, e2, ⟨rfl, _⟩, _, hcq⟩ := HDr.out.get hq
          simp only [Option.some.injEq, Addr.mk.injEq, and_true] at e2
          obtain ⟨rfl, rfl⟩ := e2
          have q0 := hcq 0 _ rfl
          rw [Nat.add_zero] at q0
          have hDD2 : leB x.nm q.nm = D := by have := HDD.out; rw [prevLe_succ hq] at this; simpa using this
          have HD2 : Hid ((Op.bytesLess x.nm.toList q.nm.toList || x.nm.toList == q.nm.toList) = D) := Lib.hid hDD2
          generalize q.nm = qn at *
          generalize hb1 : Op.bytesLess x.nm.toList qn.toList = b1 at *
          generalize hb2 : (x.nm.toList == qn.toList) = b2 at *
          have e0 : decide ((0 : Int) < (j + 1 : Nat)) = true := by simp
          have i1 : ((j + 1 : Nat) : Int) - 1 = (j : Int) := by omega
          clear hcq hq hDD2
          go_quiet (fail)
          go_wp2
          go_meet
          exact ⟨congrArg Value.bool HD2.out, below_drewN (Below.refl _ _) _⟩
        obtain ⟨rfl, hbc⟩ := hcut
        have hb8 := hb7.trans (hbc.mono hb7.size)
        clear hbc
        cases D with
        | true =>
          have HK2 : Hid ((5 : Int) = kF d m (j + 1)) := Lib.hid (by rw [HST.out]; rfl)
          go_wp2_with fail
          go_roundw
          case rel => exact ⟨j + 1, 5, by omega, by go_num, rfl, HK2, hb8⟩
          case measure => simp [intOf]; omega
        | false =>
          have HK2 : Hid (kc = kF d m (j + 1)) := Lib.hid (by rw [HST.out]; rfl)
          go_wp2_with fail
          go_roundw
          case rel => exact ⟨j + 1, kc, by omega, by go_num, rfl, HK2, hb8⟩
          case measure => simp [intOf]; omega
      obtain rfl : j = m := by omega
      have hkc : kc = seenF d := by rw [HKC.out]; unfold kF seenF; rw [HND.out, List.take_of_length_le (by rw [HND.out]; exact Nat.le_refl _)]
      have HKS := Lib.hid hkc
      have HOM7 := Lib.hid (HOM6.out.below clB_mono hb7)
      have HSW7 := Lib.hid (HSW6.out.below hb7)
      have HWQ7 := Lib.hid (HWQ6.out.below clR_mono hb7)
      clear hkc HKC hb7 HOM6 HSW6 HWQ6
      have hf1 : f1 = kc ∧ ((kc = 0 ∧ m1 = deltaF A d) ∨ (kc ≠ 0 ∧ m1 = [])) := by
        have h := HDE.out
        rw [← HKS.out] at h
        by_cases hz : kc = 0
        · rw [if_pos hz] at h
          obtain ⟨h1, h2⟩ := Prod.mk.injEq .. ▸ h
          exact ⟨by rw [h2, hz], Or.inl ⟨hz, h1⟩⟩
        · rw [if_neg hz] at h
          obtain ⟨h1, h2⟩ := Prod.mk.injEq .. ▸ h
          exact ⟨h2, Or.inr ⟨hz, h1⟩⟩
      obtain ⟨rfl, hm1⟩ := hf1
      have HM1 := Lib.hid hm1
      clear hm1
      go_upto_if 159 with (fail)
      go_cut [16] (fun t wx => ∃ zo zc, t = .slice zo m1.length zc ∧ wx = wr ∧ Hid (Sp ClR 4 wr (.slice zo m1.length zc) m1))
      case first =>
        rcases HM1.out with ⟨h1, h2⟩ | ⟨h1, h2⟩
        · subst h1
          subst h2
          go_wp2_with fail
          go_meet
          exact ⟨_, _, rfl, rfl, HWQ7⟩
        · subst h2
          have t1 : (f1 != 0) = true := by rw [bne_iff_ne]; exact h1
          clear h1
          go_wp2_with fail
          go_meet
          exact ⟨_, _, rfl, rfl, Lib.hid Sp.nil⟩
      obtain ⟨zo, zc, rfl, hwc, HWQ8⟩ := hcut
      subst hwc
      have t1 : (f1 != f1) = false := by simp
      go_wp2_with fail
      refine (sameclaims_any _ _ m1 _ (Sp.weaken HOM7.out.sp (fun a c h => clB_clR a c h)) HWQ8.out).mono ?_
      rintro e w8 ⟨rfl, hb8⟩
      have HB8 := Lib.hid (HB7.out.trans (hb8.mono HB7.out.size))
      have HSW8 := Lib.hid (HSW7.out.below hb8)
      clear hb8 HSW7
      obtain ⟨E2, hE2⟩ : ∃ E, claimsF B = E := ⟨_, rfl⟩
      have HE2 := Lib.hid hE2
      clear hE2
      go_wp2_with fail
      refine (claimsfault_any _ B _ (HB.out.below clR_mono HB8.out)).mono ?_
      rw [HE2.out]
      rintro e w9 ⟨rfl, hb9⟩
      have HB9 := Lib.hid (HB8.out.trans (hb9.mono HB8.out.size))
      have HSW9 := Lib.hid (HSW8.out.below hb9)
      clear hb9 HSW8
      by_cases hz : E2 = 0
      case neg =>
        obtain ⟨f, hf20, hfb⟩ := exists_boundC B
        have t2 : (E2 == 0) = false := beq_eq_false_iff_ne.2 hz
        have t3 : (E2 != 0) = true := by rw [bne_iff_ne]; exact hz
        have t4 : (E2 == E2) = true := by simp
        have hm3 : clMerge A B = ([], E2) := by unfold clMerge; rw [if_pos HE1.out, HE2.out, if_neg hz]
        have HM3 := Lib.hid hm3
        have HEZ := Lib.hid hz
        clear hm3 hz
        go_wp2_with fail
        refine (claimsmerged_any f _ _ A B _ (HA.out.below clR_mono HB9.out) (HB.out.below clR_mono HB9.out) (fun c hc => Nat.le_trans (HGA.out c hc).1 hf20) hfb (by have := HBL.out; rw [HNA.out, HNB.out]; unfold Fit; omega) (by rw [HNA.out]; omega)).mono ?_
        rintro e w10 ⟨vd, rfl, hsw, hb10⟩
        have HB10 := Lib.hid (HB9.out.trans (hb10.mono HB9.out.size))
        obtain ⟨yy, yc', rfl, -, -⟩ := hsw.shape
        clear hsw hb10
        rcases HSW9.out with ⟨_, k2, k3, k4⟩ | ⟨k1, _⟩
        · rw [HM3.out] at k2
          dsimp only at k2
          subst k2
          simp at k3 k4
          obtain ⟨rfl, rfl, rfl⟩ := k3
          obtain ⟨rfl, rfl, rfl⟩ := k4
          go_wp2_with fail
          go_ret
          exact ⟨rfl, HB10.out⟩
        · rw [HM3.out] at k1
          exact absurd (congrArg Prod.snd k1) HEZ.out
      subst hz
      have ho20 : o ≤ 20 := by have := (claims_zero HE2.out).1; rw [HNB.out] at this; exact this
      have HGB := Lib.hid (good_of HE2.out)
      have hbm : besG (kf 20) newC A B = mrgC A B := bes_mrgC HE1.out HE2.out
      have HBM := Lib.hid hbm
      have hm3 : clMerge A B = if 20 < (mrgC A B).length then ([], 2) else (mrgC A B, 0) := by unfold clMerge; rw [if_pos HE1.out, if_pos HE2.out]
      have HM3 := Lib.hid hm3
      clear hbm hm3
      go_wp2_with fail
      refine (claimsmerged_any 20 _ _ A B _ (HA.out.below clR_mono HB9.out) (HB.out.below clR_mono HB9.out) (fun c hc => (HGA.out c hc).1) (fun c hc => (HGB.out c hc).1) (by rw [HNA.out, HNB.out]; unfold Fit; omega) (by rw [HNA.out]; omega)).mono ?_
      rintro e w10 ⟨vd, rfl, hsw, hb10⟩
      rw [HBM.out] at hsw
      have HB10 := Lib.hid (HB9.out.trans (hb10.mono HB9.out.size))
      have HSW10 := Lib.hid (HSW9.out.below hb10)
      have HSD := Lib.hid hsw
      obtain ⟨yy, yc', rfl, -, -⟩ := hsw.shape
      have hm4 := HM3.out
      clear hsw hb10 HSW9
      by_cases hbig : 20 < (mrgC A B).length
      · rw [if_pos hbig] at hm4
        rcases HSW10.out with ⟨_, k2, k3, k4⟩ | ⟨k1, _⟩
        · rw [hm4] at k2
          dsimp only at k2
          subst k2
          simp at k3 k4
          obtain ⟨rfl, rfl, rfl⟩ := k3
          obtain ⟨rfl, rfl, rfl⟩ := k4
          clear hm4
          go_wp2_with fail
          go_ret
          exact ⟨rfl, HB10.out⟩
        · rw [hm4] at k1
          exact absurd (show (2 : Int) = 0 from congrArg Prod.snd k1) (by decide)
      · rw [if_neg hbig] at hm4
        rcases HSW10.out with ⟨k1, _⟩ | ⟨_, k2, k3, k4⟩
        · rw [hm4] at k1
          exact absurd rfl k1
        · subst k2
          have HK3 := Lib.hid (Sp.weaken k3.sp (fun a c h => clB_clR a c h))
          have HK4 := Lib.hid (Sp.weaken k4.sp (fun a c h => clB_clR a c h))
          clear hm4 k3 k4
          go_wp2_with fail
          refine (sameclaims_any _ _ (mrgC A B) _ HK3.out HSD.out).mono ?_
          rintro e w11 ⟨rfl, hb11⟩
          have HB11 := Lib.hid (HB10.out.trans (hb11.mono HB10.out.size))
          have HK5 := Lib.hid (HK4.out.below clR_mono hb11)
          have HSE := Lib.hid (HSD.out.below clR_mono hb11)
          clear hb11 HK3 HK4 HSD
          go_wp2_with fail
          refine (sameclaims_any _ _ (mrgC A B) _ HK5.out HSE.out).mono ?_
          rintro e w12 ⟨rfl, hb12⟩
          have HB12 := Lib.hid (HB11.out.trans (hb12.mono HB11.out.size))
          clear hb12
          go_wp2_with fail
          go_ret
          exact ⟨rfl, HB12.out⟩
end Go.Proofs.Ytcljeedmiobepaa.GossipTells
