/-
  The walk of ClaimsMerged.
-/
import Derived.Test.YtcljeedmiobepaaNewer2
import Derived.Test.YtcljeedmiobepaaClmLaw
import Derived.Test.YtcljeedmiobepaaGen2
import Derived.Test.YtcljeedmiobepaaWide
import Derived.Test.YtcljeedmiobepaaBoxes
import Derived.Deep.RegionLaw
import Derived.Laws.Cover1
namespace Go.Proofs.Ytcljeedmiobepaa.Nod
open Go.RowKit Go.Gh
set_option linter.unusedVariables false
/-- A claim's key, where names have at most f bytes. -/
def kf (f : Nat) (c : Cl) : Int := keyL f c.nm.data.toList
theorem name_lt {f : Nat} {x y : Cl} (hx : x.nm.size ≤ f) (hy : y.nm.size ≤ f) : Op.bytesLess x.nm.toList y.nm.toList = decide (kf f x < kf f y) := by
  rw [ByteArray.toList_eq, ByteArray.toList_eq]
  exact key_less f _ _ (by simpa using hx) (by simpa using hy)
theorem name_eq {f : Nat} {x y : Cl} (hx : x.nm.size ≤ f) (hy : y.nm.size ≤ f) : (x.nm.toList == y.nm.toList) = decide (kf f x = kf f y) := by
  rw [ByteArray.toList_eq, ByteArray.toList_eq]
  by_cases h : kf f x = kf f y
  · rw [decide_eq_true h, beq_iff_eq]
    exact key_same f _ _ (by simpa using hx) (by simpa using hy) h
  · rw [decide_eq_false h, beq_eq_false_iff_ne]
    intro he
    exact h (by unfold kf; rw [he])
def MgRel (f : Nat) (w : World) (L K : List Cl) (k p : Nat) (P : List (Cl × List Value)) : Prop := P.length = p ∧ PK 4 P ∧ (∀ q ∈ P, ClR w q.1 q.2 ∧ q.1.nm.size ≤ f) ∧ P.map (·.1) = besG (kf f) newC L (K.take k)
theorem cl_ones {w : World} {P : List (Cl × List Value)} (h : ∀ q ∈ P, ClR w q.1 q.2) : ∀ u ∈ pc P, u.oneCell' = true := by
  intro u hu
  obtain ⟨q, hq, hu⟩ := List.mem_flatMap.1 hu
  obtain ⟨t, e, ht⟩ := h q hq
  rw [e] at hu
  simp at hu
  rcases hu with rfl | rfl | rfl | rfl
  · rfl
  · rfl
  · rfl
  · exact ht.one
theorem take_succ_at {α : Type} {L : List α} {k : Nat} {x : α} (h : L[k]? = some x) : L.take (k + 1) = L.take k ++ [x] := by
  obtain ⟨h1, h2⟩ := List.getElem?_eq_some_iff.1 h
  rw [List.take_succ_eq_append_getElem h1, h2]
section
variable {f : Nat} {w : World} {L K : List Cl} {k p j : Nat} {P : List (Cl × List Value)} {x y : Cl} {c : List Value}
theorem mg_ins (h : MgRel f w L K k p P) (hy : K[k]? = some y) (hs : y.nm.size ≤ f) (hc : ClR w y c) (hA : AheadG (kf f) (P.map (·.1)) y j) (hne : ∀ x, (P.map (·.1))[j]? = some x → kf f y < kf f x) : MgRel f w L K (k + 1) (p + 1) (P.take j ++ (y, c) :: P.drop j) := by
  obtain ⟨h1, h2, h3, h4⟩ := h
  have hj : j ≤ P.length := by have := hA.1; rwa [List.length_map] at this
  have hcl : c.length = 4 := by obtain ⟨t, e, _⟩ := hc; rw [e]; rfl
  refine ⟨by rw [List.length_append, List.length_cons, List.length_take, List.length_drop]; omega, h2.ins hcl j, all_ins h3 ⟨hc, hs⟩ j, ?_⟩
  rw [map_ins, take_succ_at hy, besG_snoc, ← h4]
  rcases Nat.lt_or_ge j P.length with hlt | hge
  · obtain ⟨x, hx⟩ : ∃ x, (P.map (·.1))[j]? = some x := ⟨_, List.getElem?_eq_getElem (by simpa using hlt)⟩
    have := hne _ hx
    rw [insG_mid hA hx (by omega), if_neg (by omega)]
  · rw [insG_end hA (by rw [List.length_map]; omega), List.take_of_length_le (by rw [List.length_map]; exact hge), List.drop_of_length_le (by rw [List.length_map]; exact hge)]
theorem mg_keep (h : MgRel f w L K k p P) (hy : K[k]? = some y) (hA : AheadG (kf f) (P.map (·.1)) y j) (hx : (P.map (·.1))[j]? = some x) (he : kf f x = kf f y) (hn : newerC y x = false) : MgRel f w L K (k + 1) p P := by
  obtain ⟨h1, h2, h3, h4⟩ := h
  refine ⟨h1, h2, h3, ?_⟩
  rw [take_succ_at hy, besG_snoc, ← h4, insG_mid hA hx (by omega), if_pos he]
  have : newC x y = x := by unfold newC; rw [hn]; rfl
  rw [this]
  have hlt := (List.getElem?_eq_some_iff.1 hx).1
  have hxe := (List.getElem?_eq_some_iff.1 hx).2
  rw [← hxe]
  exact (List.set_getElem_self hlt).symm
theorem mg_over (h : MgRel f w L K k p P) (hy : K[k]? = some y) (hs : y.nm.size ≤ f) (hc : ClR w y c) (hA : AheadG (kf f) (P.map (·.1)) y j) (hx : (P.map (·.1))[j]? = some x) (he : kf f x = kf f y) (hn : newerC y x = true) : MgRel f w L K (k + 1) p (P.set j (y, c)) := by
  obtain ⟨h1, h2, h3, h4⟩ := h
  have hcl : c.length = 4 := by obtain ⟨t, e, _⟩ := hc; rw [e]; rfl
  refine ⟨by rw [List.length_set, h1], h2.set hcl j, all_set h3 ⟨hc, hs⟩ j, ?_⟩
  rw [map_set, take_succ_at hy, besG_snoc, ← h4, insG_mid hA hx (by omega), if_pos he]
  have : newC x y = y := by unfold newC; rw [hn]; rfl
  rw [this]
end
/-- A claim's cells, of which the tokens were there already. -/
def ClP (w0 : World) (_ : World) (x : Cl) (c : List Value) : Prop := ClR w0 x c
theorem clP_mono {w0 : World} : Mono (ClP w0) := fun w w' a c h _ => h
theorem clP_grow {w0 : World} {T : TypeId} {k B : Nat} : Grow (ClP w0) T k B := fun w w' a c u m us h _ _ => h
set_option maxHeartbeats 4000000 in
set_option maxRecDepth 100000 in
theorem claimsmerged_own (f : Nat) (v u : Value) (L K : List Cl) (w0 w : World) (hb0 : Below w0.heap.size w0 w) (hs : Sp (ClP w0) 4 w v L) (ht : Sp (ClP w0) 4 w u K) (hf1 : ∀ c ∈ L, c.nm.size ≤ f) (hf2 : ∀ c ∈ K, c.nm.size ≤ f) (hfit : Fit (L.length + K.length) 56) (hlen : L.length * 56 ≤ 140737488355328) :
    Calls Try.prog 22 #[v, u] w fun e w' => ∃ v', e = .returned v' ∧ Ow (ClP w0) 4 27 w.heap.size w' v' (besG (kf f) newC L K) ∧ Below w.heap.size w w' := by
  obtain ⟨ao, c, rfl, hnc, hc⟩ := hs.shape
  obtain ⟨bo, d, rfl, hod, hd⟩ := ht.shape
  obtain ⟨P0, hP1, hP2, hP3, hP4⟩ := hs
  obtain ⟨n, hn⟩ : ∃ n, L.length = n := ⟨_, rfl⟩
  obtain ⟨o, ho⟩ : ∃ o, K.length = o := ⟨_, rfl⟩
  rw [hn] at hP4 hnc hlen hfit ⊢
  rw [ho] at ht hod hfit ⊢
  have h48 := hfit.le
  have HFIT := Lib.hid hfit
  have HL := Lib.hid hn
  have HM := Lib.hid ho
  have HT := Lib.hid ht
  have HF2 := Lib.hid hf2
  have HB0 := Lib.hid hb0
  have hone := cl_ones (w := w0) hP3
  have HREL0 : Hid (MgRel f w0 L K 0 n P0) := Lib.hid ⟨by rw [← List.length_map (f := (·.1)), hP1, hn], hP2, fun q hq => ⟨hP3 q hq, hf1 q.1 (by rw [← hP1]; exact List.mem_map_of_mem hq)⟩, by rw [hP1]; rfl⟩
  clear hfit hn ho ht hf1 hf2 hP1 hP2 hP3 hb0
  go_enter Try.func22, Try.ntmps22
  go_wp2_with (at_builtin; refine wpList_append_copy elCl rfl _ _ rfl rfl rfl hP4 hone (by omega) (by omega) (Below.refl _ _) (Nat.le_refl _) ?_; intro v1 w1 hown1 hb1)
  go_loopw [5, 13] (fun u i wr => ∃ (k p : Nat) (P : List (Cl × List Value)), k ≤ o ∧ p ≤ n + k ∧ i = .int .i64 k ∧ Hid (MgRel f w0 L K k p P) ∧ Hid (wr.ownsRow w.heap.size 27 4 u p (pc P)) ∧ Below w.heap.size w wr) (fun _ i _ => o - (intOf i).toNat)
  case atStart => exact ⟨0, n, P0, by omega, by omega, rfl, HREL0, Lib.hid hown1, hb1⟩
  case round =>
    obtain ⟨k, p, P, hk, hp, rfl, HR, HOW, hbel⟩ := hrel
    have hsz := hbel.size
    by_cases hlt : k < o
    case neg =>
      obtain rfl : k = o := by omega
      have hR := HR.out
      have HEQ : Hid (P.map (·.1) = besG (kf f) newC L K) := Lib.hid (by rw [hR.2.2.2, List.take_of_length_le (by rw [HM.out]; exact Nat.le_refl _)])
      have HSP : Hid (Ow (ClP w0) 4 27 w.heap.size wr u5 (besG (kf f) newC L K)) := Lib.hid (by
        rw [← HEQ.out]
        exact ⟨P, rfl, hR.2.1, fun q hq => (hR.2.2.1 q hq).1, by rw [List.length_map, hR.1]; exact HOW.out⟩)
      clear hR
      go_wp2_with fail
      go_ret
      exact ⟨_, rfl, HSP.out, hbel⟩
    obtain ⟨y, hy⟩ : ∃ y, K[k]? = some y := ⟨_, List.getElem?_eq_getElem (by rw [HM.out]; exact hlt)⟩
    have HY := Lib.hid hy
    have HYS : Hid (y.nm.size ≤ f) := Lib.hid (HF2.out y (List.mem_of_getElem? hy))
    obtain ⟨b, off, cs, rfl, ⟨t, rfl, hty⟩, _, hck⟩ := HT.out.get hy
    have HTY := Lib.hid hty
    have c0 := (hbel.cell (p := ⟨b, off + k * 4 + 0, none⟩) (cell_lt (hck 0 _ rfl))).trans (hck 0 _ rfl)
    have c1 := (hbel.cell (p := ⟨b, off + k * 4 + 1, none⟩) (cell_lt (hck 0 _ rfl))).trans (hck 1 _ rfl)
    have c2 := (hbel.cell (p := ⟨b, off + k * 4 + 2, none⟩) (cell_lt (hck 0 _ rfl))).trans (hck 2 _ rfl)
    have c3 := (hbel.cell (p := ⟨b, off + k * 4 + 3, none⟩) (cell_lt (hck 0 _ rfl))).trans (hck 3 _ rfl)
    rw [Nat.add_zero] at c0
    obtain ⟨ta, tc, rfl, -, -, -⟩ := hty.1.shape
    clear hck hty hy
    have hbelA := hbel.alloc hsz (Obj.cells #[.int .i64 y.ver, .int .i64 y.st, .string y.nm, .slice ta y.tk.length tc] 27)
    have hown := HOW.out
    obtain ⟨ua, uc, rfl, hpc, hcm, -⟩ := own_shape hown
    go_wp2_with fail
    have hboxA : (wr.alloc (Obj.cells #[.int .i64 y.ver, .int .i64 y.st, .string y.nm, .slice ta y.tk.length tc] 27)).heap[wr.heap.size]? = some (.cells #[.int .i64 y.ver, .int .i64 y.st, .string y.nm, .slice ta y.tk.length tc] 27 (0, 0)) := heap_alloc_new wr _
    have hownA := hown.alloc (Obj.cells #[.int .i64 y.ver, .int .i64 y.st, .string y.nm, .slice ta y.tk.length tc] 27)
    have hbo : ∀ g, (Value.slice ua p uc).ownBlock = some g → g < wr.heap.size := fun g hg => (hown.lt g hg).2
    generalize hwA : wr.alloc (Obj.cells #[.int .i64 y.ver, .int .i64 y.st, .string y.nm, .slice ta y.tk.length tc] 27) = wA at *
    have hszA : wA.heap.size = wr.heap.size + 1 := by rw [← hwA]; simp
    have HSZ := Lib.hid hszA
    clear hwA hszA hown HOW
    generalize hbx : wr.heap.size = bx at *
    have hbw : w.heap.size ≤ bx := by rw [← hbx]; exact hbel.size
    have hbxA : bx < wA.heap.size := by rw [HSZ.out]; omega
    clear hbx c0 c1 c2 c3 hbel
    have HOA := Lib.hid hownA
    have HBX := Lib.hid hboxA
    have HBL := Lib.hid hbelA
    have HBO := Lib.hid hbo
    have HPL := Lib.hid HR.out.1
    clear hownA hboxA hbelA hbo
    go_loopw [8] (fun i wx => ∃ j : Nat, j ≤ p ∧ i = .int .i64 j ∧ Hid (AheadG (kf f) (P.map (·.1)) y j) ∧ ∃ q, wx = wA.drewN q) (fun i _ => p - (intOf i).toNat)
    case atStart => exact ⟨0, by omega, rfl, Lib.hid (AheadG.zero _ _), 0, rfl⟩
    case round =>
      obtain ⟨j, hj, rfl, hahead, q, rfl⟩ := hrel
      obtain ⟨⟨b0, b1, b2, b3⟩, -⟩ := bx4 HBX.out
      by_cases hjp : j < p
      case neg =>
        obtain rfl : j = p := by omega
        have jq : ((j : Int) == (j : Int)) = true := by simp
        have HNE : Hid (MgRel f w0 L K (k + 1) (j + 1) (P.take j ++ (y, [.int .i64 y.ver, .int .i64 y.st, .string y.nm, .slice ta y.tk.length tc]) :: P.drop j)) := Lib.hid (mg_ins HR.out HY.out HYS.out ⟨_, rfl, HTY.out⟩ hahead.out (fun x hx => by rw [List.getElem?_eq_none (by rw [List.length_map, HPL.out]; exact Nat.le_refl _)] at hx; simp at hx))
        have HOND : Hid (∀ u ∈ (pc P).drop (j * 4), u.oneCell' = true) := Lib.hid (fun u hu => cl_ones (fun q hq => (HR.out.2.2.1 q hq).1) u (List.mem_of_mem_drop hu))
        have q1 : Fit (1 + 0) 56 := HFIT.out.mono (by omega)
        have q2 : 1 + 0 ≤ 9223372036854775807 := by decide
        have q3 : 0 < 1 + 0 := by decide
        have q4 : Fit (j + (1 + 0)) 56 := HFIT.out.mono (by omega)
        have q5 : j + (1 + 0) ≤ 9223372036854775807 := by omega
        rcases own_end HOA.out with ⟨rfl, rfl, rfl, hpa, hpb⟩ | ⟨g, rfl, hpa, ⟨rfl, hpb⟩ | ⟨hne, hpb⟩⟩
        · clear hpc
          go_wp2_with fail
          go_quiet (fail)
          go_wp2_with fail
          go_quiet (fail)
          go_wp2_with fail
          go_region_law (first
            | (refine step_append_lit_w [.int .i64 y.ver, .int .i64 y.st, .string y.nm, .slice ta y.tk.length tc] elCl rfl _ _ rfl rfl rfl (by exact hpb) rfl HOND.out q1 q2 ?_; intro g2 cap2 w2 hown2 hb2; have hbq : Below wA.heap.size wA w2 := (below_drewN (Below.refl _ wA) _).trans hb2; have hprt2 := hpa.below hbq; have hbel2 := HBL.out.trans (hbq.mono HBL.out.size))
            | (refine step_append_full_w elCl rfl _ _ rfl _ _ _ rfl hprt2 _ _ _ _ rfl (own_sl hown2) q3 q4 q5 hbel2 hbel2.size ?_; intro cap3 w3 hown3 hbel3 _))
          all_goals
            have HON : Hid (w3.ownsRow w.heap.size 27 4 (.slice (some ⟨w2.heap.size, 0, none⟩) (0 + 1) cap3) (0 + 1) (pc (P.take 0 ++ (y, [.int .i64 y.ver, .int .i64 y.st, .string y.nm, .slice ta y.tk.length tc]) :: P.drop 0))) := Lib.hid (own_insP_end (hown3 _ hbel2.size) HR.out.2.1 HPL.out)
            clear hown3 hown2 hprt2
            go_wp2_with fail
            go_roundw
            case rel => exact ⟨k + 1, 0 + 1, _, by omega, by omega, by go_num, HNE, HON, hbel3⟩
            case measure => simp [intOf]; omega
        · have hg1 : w.heap.size ≤ g := (HOA.out.lt g rfl).1
          go_wp2_with fail
          go_quiet (fail)
          go_wp2_with fail
          go_quiet (fail)
          go_wp2_with fail
          go_region_law (first
            | (refine step_append_lit_w [.int .i64 y.ver, .int .i64 y.st, .string y.nm, .slice ta y.tk.length tc] elCl rfl _ _ rfl rfl rfl (by exact hpb) rfl HOND.out q1 q2 ?_; intro g2 cap2 w2 hown2 hb2; have hbq : Below wA.heap.size wA w2 := (below_drewN (Below.refl _ wA) _).trans hb2; have hprt2 := hpa.below hbq; have hbel2 := HBL.out.trans (hbq.mono HBL.out.size))
            | (refine step_append_full_w elCl rfl _ _ rfl _ _ _ rfl hprt2 _ _ _ _ rfl (own_sl hown2) q3 q4 q5 hbel2 hbel2.size ?_; intro cap3 w3 hown3 hbel3 _))
          all_goals
            have HON : Hid (w3.ownsRow w.heap.size 27 4 (.slice (some ⟨w2.heap.size, 0, none⟩) (uc + 1) cap3) (uc + 1) (pc (P.take uc ++ (y, [.int .i64 y.ver, .int .i64 y.st, .string y.nm, .slice ta y.tk.length tc]) :: P.drop uc))) := Lib.hid (own_insP_end (hown3 _ hbel2.size) HR.out.2.1 HPL.out)
            clear hown3 hown2 hprt2
            go_wp2_with fail
            go_roundw
            case rel => exact ⟨k + 1, uc + 1, _, by omega, by omega, by go_num, HNE, HON, hbel3⟩
            case measure => simp [intOf]; omega
        · have hg1 : w.heap.size ≤ g := (HOA.out.lt g rfl).1
          have huj : (uc = j) = False := eq_false hne
          go_wp2_with fail
          go_quiet (fail)
          go_wp2_with fail
          go_quiet (fail)
          go_wp2_with fail
          go_region_law (first
            | (refine step_append_lit_w [.int .i64 y.ver, .int .i64 y.st, .string y.nm, .slice ta y.tk.length tc] elCl rfl _ _ rfl rfl rfl (by exact hpb) rfl HOND.out q1 q2 ?_; intro g2 cap2 w2 hown2 hb2; have hbq : Below wA.heap.size wA w2 := (below_drewN (Below.refl _ wA) _).trans hb2; have hprt2 := hpa.below hbq; have hbel2 := HBL.out.trans (hbq.mono HBL.out.size))
            | (refine step_append_full_w elCl rfl _ _ rfl _ _ _ rfl hprt2 _ _ _ _ rfl (own_sl hown2) q3 q4 q5 hbel2 hbel2.size ?_; intro cap3 w3 hown3 hbel3 _))
          all_goals
            have HON : Hid (w3.ownsRow w.heap.size 27 4 (.slice (some ⟨w2.heap.size, 0, none⟩) (j + 1) cap3) (j + 1) (pc (P.take j ++ (y, [.int .i64 y.ver, .int .i64 y.st, .string y.nm, .slice ta y.tk.length tc]) :: P.drop j))) := Lib.hid (own_insP_end (hown3 _ hbel2.size) HR.out.2.1 HPL.out)
            clear hown3 hown2 hprt2
            go_wp2_with fail
            go_roundw
            case rel => exact ⟨k + 1, j + 1, _, by omega, by omega, by go_num, HNE, HON, hbel3⟩
            case measure => simp [intOf]; omega
      obtain ⟨⟨x, xc⟩, hx⟩ : ∃ q, P[j]? = some q := ⟨_, List.getElem?_eq_getElem (by rw [HPL.out]; exact hjp)⟩
      have hxm : ClR w0 x xc ∧ x.nm.size ≤ f := HR.out.2.2.1 _ (List.mem_of_getElem? hx)
      obtain ⟨⟨tx, rfl, htx⟩, hxs⟩ := hxm
      have HXP : Hid ((P.map (·.1))[j]? = some x) := Lib.hid (by rw [List.getElem?_map, hx]; rfl)
      obtain ⟨g, cap, e, hg1, hg2, hg3, hg4, _⟩ := own_some HOA.out (by omega)
      simp at e
      obtain ⟨rfl, rfl⟩ := e
      obtain ⟨hcell, hfz⟩ := own_el HOA.out HR.out.2.1 hx hjp
      have x2 := hcell 2 _ rfl
      have hlt1 := name_lt hxs HYS.out
      have heq1 := name_eq hxs HYS.out
      try dsimp only at x2
      generalize hb1 : Op.bytesLess x.nm.toList y.nm.toList = B1 at *
      generalize hb2 : (x.nm.toList == y.nm.toList) = B2 at *
      by_cases hXT : kf f x < kf f y
      · have HN : Hid (AheadG (kf f) (P.map (·.1)) y (j + 1)) := Lib.hid (hahead.out.succ HXP.out hXT)
        obtain rfl : B1 = true := by rw [hlt1]; exact decide_eq_true hXT
        clear hlt1 heq1 hcell hfz hx hXT
        go_wp2_with fail
        go_quiet (fail)
        go_wp2
        go_roundw
        case rel => exact ⟨j + 1, by omega, by go_num, HN, _, rfl⟩
        case measure => simp [intOf]; omega
      obtain rfl : B1 = false := by rw [hlt1]; exact decide_eq_false hXT
      have jq : ((j : Int) == (p : Int)) = false := beq_eq_false_iff_ne.2 (by omega)
      have hdec : decide ((j : Int) < (p : Int)) = true := decide_eq_true (by omega)
      clear hlt1
      by_cases hYX : kf f y < kf f x
      · obtain rfl : B2 = false := by rw [heq1]; exact decide_eq_false (by omega)
        have HNE : Hid (MgRel f w0 L K (k + 1) (p + 1) (P.take j ++ (y, [.int .i64 y.ver, .int .i64 y.st, .string y.nm, .slice ta y.tk.length tc]) :: P.drop j)) := Lib.hid (mg_ins HR.out HY.out HYS.out ⟨_, rfl, HTY.out⟩ hahead.out (fun x' hx' => by
          have := HXP.out.symm.trans hx'
          rw [← Option.some.inj this]
          exact hYX))
        have HOND : Hid (∀ u ∈ (pc P).drop (j * 4), u.oneCell' = true) := Lib.hid (fun u hu => cl_ones (fun q hq => (HR.out.2.2.1 q hq).1) u (List.mem_of_mem_drop hu))
        have hju : j ≤ uc := by omega
        have q1 : Fit (1 + (p - j)) 56 := HFIT.out.mono (by omega)
        have q2 : 1 + (p - j) ≤ 9223372036854775807 := by omega
        have q3 : 0 < 1 + (p - j) := by omega
        have q4 : Fit (j + (1 + (p - j))) 56 := HFIT.out.mono (by omega)
        have q5 : j + (1 + (p - j)) ≤ 9223372036854775807 := by omega
        have huj : (uc = j) = False := eq_false (by omega)
        have hprt := own_parts HOA.out (i := j) (by omega)
        rw [if_neg (by omega)] at hprt
        have HPRT := Lib.hid hprt
        clear hprt heq1 hcell hfz hx hXT hYX
        go_wp2_with fail
        go_quiet (fail)
        go_wp2_with fail
        go_quiet (fail)
        go_wp2_with fail
        go_region_law (first
          | (refine step_append_lit_w [.int .i64 y.ver, .int .i64 y.st, .string y.nm, .slice ta y.tk.length tc] elCl rfl _ _ rfl rfl rfl (by exact HPRT.out.2) rfl HOND.out q1 q2 ?_; intro g2 cap2 w2 hown2 hb2; have hbq : Below wA.heap.size wA w2 := (below_drewN (Below.refl _ wA) _).trans hb2; have hprt2 := HPRT.out.1.below hbq; have hbel2 := HBL.out.trans (hbq.mono HBL.out.size))
          | (refine step_append_full_w elCl rfl _ _ rfl _ _ _ rfl hprt2 _ _ _ _ rfl (own_sl hown2) q3 q4 q5 hbel2 hbel2.size ?_; intro cap3 w3 hown3 hbel3 _))
        all_goals
          have HON : Hid (w3.ownsRow w.heap.size 27 4 (.slice (some ⟨w2.heap.size, 0, none⟩) (p + 1) cap3) (p + 1) (pc (P.take j ++ (y, [.int .i64 y.ver, .int .i64 y.st, .string y.nm, .slice ta y.tk.length tc]) :: P.drop j))) := Lib.hid (own_insP (hown3 _ hbel2.size) HR.out.2.1 HPL.out hj)
          have hjpe : j + (1 + (p - j)) = p + 1 := by omega
          clear hown3 hown2 hprt2
          rw [hjpe]
          go_wp2_with fail
          go_roundw
          case rel => exact ⟨k + 1, p + 1, _, by omega, by omega, by go_num, HNE, HON, hbel3⟩
          case measure => simp [intOf]; omega
      have hke : kf f x = kf f y := by omega
      obtain rfl : B2 = true := by rw [heq1]; exact decide_eq_true hke
      obtain ⟨N, hN⟩ : ∃ N, newerC y x = N := ⟨_, rfl⟩
      have HN := Lib.hid hN
      have HKE := Lib.hid hke
      have x0 := hcell 0 _ rfl
      have x1 := hcell 1 _ rfl
      have x3 := hcell 3 _ rfl
      rw [Nat.add_zero] at x0
      try dsimp only at x0 x1 x3
      have HTX := Lib.hid htx
      have HXX := Lib.hid hx
      obtain ⟨xa, xb, rfl, -, -, -⟩ := htx.1.shape
      clear heq1 hcell hfz hx hXT hYX hke hN htx
      go_wp2_with fail
      go_quiet (fail)
      go_wp2_with fail
      go_quiet (fail)
      go_upto_region 10 with (fail)
      refine wp_abs (fun wx => Below wA.heap.size wA wx) (below_drewN (below_drewN (below_drewN (Below.refl _ _) _) _) _) ?_
      intro wB hbB
      have HBQ : Hid (Below wA.heap.size wA wB.drew) := Lib.hid hbB.drew
      have hgA : g < wA.heap.size := cell_lt x0
      replace b0 := (hbB.cell (p := ⟨bx, 0, none⟩) hbxA).trans b0
      replace b1 := (hbB.cell (p := ⟨bx, 1, none⟩) hbxA).trans b1
      replace b2 := (hbB.cell (p := ⟨bx, 2, none⟩) hbxA).trans b2
      replace b3 := (hbB.cell (p := ⟨bx, 3, none⟩) hbxA).trans b3
      replace x0 := (hbB.cell (p := ⟨g, j * 4, none⟩) hgA).trans x0
      replace x1 := (hbB.cell (p := ⟨g, j * 4 + 1, none⟩) hgA).trans x1
      replace x2 := (hbB.cell (p := ⟨g, j * 4 + 2, none⟩) hgA).trans x2
      replace x3 := (hbB.cell (p := ⟨g, j * 4 + 3, none⟩) hgA).trans x3
      have hbxB : bx < wB.heap.size := cell_lt b0
      have hgB : g < wB.heap.size := cell_lt x0
      clear hbB
      have HVX : Hid (ClV wB.drew (.agg #[.int .i64 x.ver, .int .i64 x.st, .string x.nm, .slice xa x.tk.length xb]) x) := Lib.hid ⟨_, rfl, ((HTX.out.below HB0.out).below HBL.out).below HBQ.out⟩
      have HVY : Hid (ClV wB.drew (.agg #[.int .i64 y.ver, .int .i64 y.st, .string y.nm, .slice ta y.tk.length tc]) y) := Lib.hid ⟨_, rfl, ((HTY.out.below HB0.out).below HBL.out).below HBQ.out⟩
      go_region_held3 (fun w' => w'.cell? ⟨bx, 0, none⟩ = some (.int .i64 y.ver) ∧ w'.cell? ⟨bx, 1, none⟩ = some (.int .i64 y.st) ∧ w'.cell? ⟨bx, 2, none⟩ = some (.string y.nm) ∧ w'.cell? ⟨bx, 3, none⟩ = some (.slice ta y.tk.length tc) ∧ w'.cell? ⟨g, j * 4, none⟩ = some (.int .i64 x.ver) ∧ w'.cell? ⟨g, j * 4 + 1, none⟩ = some (.int .i64 x.st) ∧ w'.cell? ⟨g, j * 4 + 2, none⟩ = some (.string x.nm) ∧ w'.cell? ⟨g, j * 4 + 3, none⟩ = some (.slice xa x.tk.length xb)) (first | (with_reducible exact ⟨b0, b1, b2, b3, x0, x1, x2, x3⟩) | (exact ⟨b0, b1, b2, b3, x0, x1, x2, x3⟩) | (with_reducible exact z) | go_keep) (first
        | (go_at_call 19; refine (newerthan_any _ _ y x _ HVY.out HVX.out).mono ?_; rw [HN.out]; rintro e w2 ⟨rfl, hb2⟩; have hc := fun (p : Addr) (h : p.block < wB.heap.size) => hb2.cell (p := p) h; have z := And.intro ((hc ⟨bx, 0, none⟩ hbxB).trans b0) (And.intro ((hc ⟨bx, 1, none⟩ hbxB).trans b1) (And.intro ((hc ⟨bx, 2, none⟩ hbxB).trans b2) (And.intro ((hc ⟨bx, 3, none⟩ hbxB).trans b3) (And.intro ((hc ⟨g, j * 4, none⟩ hgB).trans x0) (And.intro ((hc ⟨g, j * 4 + 1, none⟩ hgB).trans x1) (And.intro ((hc ⟨g, j * 4 + 2, none⟩ hgB).trans x2) ((hc ⟨g, j * 4 + 3, none⟩ hgB).trans x3))))))); clear hc; have HB2 := Lib.hid hb2))
      have HB3 : Hid (Below wA.heap.size wA w2) := Lib.hid (HBQ.out.trans (HB2.out.mono HBQ.out.size))
      have HO3 : Hid (w2.ownsRow w.heap.size 27 4 (.slice (some ⟨g, 0, none⟩) p uc) p (pc P)) := Lib.hid (own_below HOA.out HB3.out)
      have HBX3 : Hid (w2.heap[bx]? = _) := Lib.hid ((HB3.out.block bx hbxA).trans HBX.out)
      have HBW3 : Hid (Below w.heap.size w w2) := Lib.hid (HBL.out.trans (HB3.out.mono HBL.out.size))
      clear hb2 z b0 b1 b2 b3 x0 x1 x2 x3
      cases N with
      | false =>
        have HNE : Hid (MgRel f w0 L K (k + 1) p P) := Lib.hid (mg_keep HR.out HY.out hahead.out HXP.out HKE.out HN.out)
        go_wp2_with fail
        go_roundw
        case rel => exact ⟨k + 1, p, _, by omega, by omega, by go_num, HNE, HO3, HBW3.out⟩
        case measure => simp [intOf]; omega
      | true =>
        have HNE : Hid (MgRel f w0 L K (k + 1) p (P.set j (y, [.int .i64 y.ver, .int .i64 y.st, .string y.nm, .slice ta y.tk.length tc]))) := Lib.hid (mg_over HR.out HY.out HYS.out ⟨_, rfl, HTY.out⟩ hahead.out HXP.out HKE.out HN.out)
        obtain ⟨⟨b0, b1, b2, b3⟩, -⟩ := bx4 HBX3.out
        obtain ⟨hcell, hfz⟩ := own_el HO3.out HR.out.2.1 HXX.out hjp
        have x0 := hcell 0 _ rfl
        have x1 := hcell 1 _ rfl
        have x2 := hcell 2 _ rfl
        have x3 := hcell 3 _ rfl
        have f0 := hfz 0
        have f1 := hfz 1
        have f2 := hfz 2
        have f3 := hfz 3
        rw [Nat.add_zero] at x0 f0
        try dsimp only at x0 x1 x2 x3
        have hon := own_over (a := y) (c := [.int .i64 y.ver, .int .i64 y.st, .string y.nm, .slice ta y.tk.length tc]) HO3.out HR.out.2.1 (i := j) (by rw [HPL.out]; exact hjp) rfl
        have hbn := below_stores (B := w.heap.size) (g := g) hg1 [.int .i64 y.ver, .int .i64 y.st, .string y.nm, .slice ta y.tk.length tc] w2 (j * 4) HBW3.out
        simp only [setCells, Nat.add_assoc, Nat.reduceAdd] at hon hbn
        have HON := Lib.hid hon
        have HBN := Lib.hid hbn
        clear hcell hfz hon hbn
        go_wp2_with fail
        go_roundw
        case rel => exact ⟨k + 1, p, _, by omega, by omega, by go_num, HNE, HON, HBN.out⟩
        case measure => simp [intOf]; omega
theorem claimsmerged_any (f : Nat) (v u : Value) (L K : List Cl) (w : World) (hs : Sp ClR 4 w v L) (ht : Sp ClR 4 w u K) (hf1 : ∀ c ∈ L, c.nm.size ≤ f) (hf2 : ∀ c ∈ K, c.nm.size ≤ f) (hfit : Fit (L.length + K.length) 56) (hlen : L.length * 56 ≤ 140737488355328) :
    Calls Try.prog 22 #[v, u] w fun e w' => ∃ v', e = .returned v' ∧ Sp ClR 4 w' v' (besG (kf f) newC L K) ∧ Below w.heap.size w w' := by
  refine (claimsmerged_own f v u L K w w (Below.refl _ _) (Sp.weaken hs (fun a c h => h)) (Sp.weaken ht (fun a c h => h)) hf1 hf2 hfit hlen).mono ?_
  rintro e w' ⟨v', rfl, ⟨P, h1, h2, h3, h4⟩, hb⟩
  exact ⟨v', rfl, ⟨P, h1, h2, fun q hq => clR_mono _ _ _ _ (h3 q hq) hb, own_sl h4⟩, hb⟩
end Go.Proofs.Ytcljeedmiobepaa.Nod
