/-
  The walks of log.Cut and Frames.
-/
import Derived.Test.YtckpabminhkndaaLog2
namespace Go.Proofs.Ytckpabminhkndaa.Log
open Go.RowKit Go.Gh Go.Proofs.Ytckpabminhkndaa.Bits Go.Proofs.Ytckpabminhkndaa.Hash
set_option linter.unusedVariables false
theorem infoSl : (Try.prog.info? 23).map (fun i => (i.zero, i.size, i.bytes)) = some (some (.slice none 0 0), 1, 24) := by kernel_rfl
theorem elSl : Elem Try.prog 37 23 1 24 := elem_of Try.underlying37 infoSl rfl (by decide)
/-- A slice value that reads as bytes, and whose block is old or a block of bytes. -/
def SB (w : World) (base : Nat) (v : Value) (l : List Int) : Prop := Sl w 1 v l.length (l.map (Value.int .u8)) ∧ BytesL l ∧ v.oneCell' = true ∧ ∀ b, v.ownBlock = some b → b < base ∧ b < w.heap.size ∨ ∃ cs fr, w.heap[b]? = some (.cells cs 5 fr)
def RowsT (w : World) (base : Nat) (vs : List Value) (L : List (List Int)) : Prop := vs.length = L.length ∧ ∀ i v, vs[i]? = some v → SB w base v (L.getD i [])
theorem SB.below {w w' : World} {base : Nat} {v : Value} {l : List Int} (h : SB w base v l) (hb : Below w.heap.size w w') : SB w' base v l := by
  obtain ⟨h1, h2, h3, h4⟩ := h
  refine ⟨h1.below hb, h2, h3, fun b hb' => ?_⟩
  rcases h4 b hb' with h | ⟨cs, fr, h⟩
  · exact Or.inl ⟨h.1, Nat.lt_of_lt_of_le h.2 hb.size⟩
  · exact Or.inr ⟨cs, fr, (hb.block b (Array.getElem?_eq_some_iff.1 h).1).trans h⟩
theorem sl_grown {w w' : World} {size n b : Nat} {v : Value} {xs : List Value} (h : Sl w size v n xs) (hg : w.grownBy w' (some b)) (hne : 0 < n → v.ownBlock ≠ some b) : Sl w' size v n xs := by
  obtain ⟨ao, cap, rfl, h2, h3, h4, h5, h6⟩ := h
  refine ⟨ao, cap, rfl, h2, h3, h4, h5, fun hn => ?_⟩
  obtain ⟨b', off, rfl, hc⟩ := h6 hn
  refine ⟨b', off, rfl, fun i u hu => ?_⟩
  exact hg.cell (hc i u hu) (by simpa [Value.ownBlock] using hne hn)
theorem SB.grown {w w' : World} {base m : Nat} {u v : Value} {us : List Value} {l : List Int} (h : SB w base v l) (ho : w.ownsRow base 23 1 u m us) (hg : w.grownBy w' u.ownBlock) : SB w' base v l := by
  cases hu : u.ownBlock with
  | none =>
    rw [hu] at hg
    exact h.below (below_of_grown hg (Nat.le_refl _) (fun k hk => by simp at hk))
  | some g =>
    rw [hu] at hg
    obtain ⟨h1, h2, h3, h4⟩ := h
    have hgb := (ho.lt g hu).1
    obtain ⟨_, ho2⟩ := ho
    rcases ho2 with ⟨rfl, _⟩ | ⟨g', cap, cur, rfl, _, hcur, _⟩
    · simp [Value.ownBlock] at hu
    · have hgg : g' = g := by simpa [Value.ownBlock] using hu
      subst hgg
      have hne : ∀ b, v.ownBlock = some b → b ≠ g' := by
        intro b hb he
        subst he
        rcases h4 b hb with h | ⟨cs, fr, h⟩
        · omega
        · rw [hcur] at h
          have := Option.some.inj h
          injection this with _ ht _
          exact absurd ht (by decide)
      refine ⟨sl_grown h1 hg (fun _ he => hne g' he rfl), h2, h3, fun b hb => ?_⟩
      rcases h4 b hb with h | ⟨cs, fr, h⟩
      · exact Or.inl ⟨h.1, Nat.lt_of_lt_of_le h.2 hg.size⟩
      · exact Or.inr ⟨cs, fr, (hg.block b (Array.getElem?_eq_some_iff.1 h).1 (by have := hne b hb; simp; omega)).trans h⟩
theorem RowsT.below {w w' : World} {base : Nat} {vs : List Value} {L : List (List Int)} (h : RowsT w base vs L) (hb : Below w.heap.size w w') : RowsT w' base vs L := ⟨h.1, fun i v hv => (h.2 i v hv).below hb⟩
theorem RowsT.grown {w w' : World} {base m : Nat} {u : Value} {us vs : List Value} {L : List (List Int)} (h : RowsT w base vs L) (ho : w.ownsRow base 23 1 u m us) (hg : w.grownBy w' u.ownBlock) : RowsT w' base vs L := ⟨h.1, fun i v hv => (h.2 i v hv).grown ho hg⟩
theorem RowsT.nil (w : World) (base : Nat) : RowsT w base [] [] := ⟨rfl, fun i v h => by simp at h⟩
theorem RowsT.snoc {w : World} {base : Nat} {vs : List Value} {L : List (List Int)} {v : Value} {l : List Int} (h : RowsT w base vs L) (hv : SB w base v l) : RowsT w base (vs ++ [v]) (L ++ [l]) := by
  refine ⟨by rw [List.length_append, List.length_append, h.1]; rfl, fun i u hu => ?_⟩
  by_cases hi : i < vs.length
  · rw [List.getElem?_append_left hi] at hu
    have := h.2 i u hu
    rw [List.getD_eq_getElem?_getD, List.getElem?_append_left (by rw [← h.1]; exact hi), ← List.getD_eq_getElem?_getD]
    exact this
  · have hi2 : i = vs.length := by
      have := (List.getElem?_eq_some_iff.1 hu).1
      rw [List.length_append] at this
      simp at this
      omega
    subst hi2
    rw [List.getElem?_append_right (Nat.le_refl _), Nat.sub_self] at hu
    have e : u = v := by simpa using hu.symm
    subst e
    rw [List.getD_eq_getElem?_getD, List.getElem?_append_right (by rw [h.1]; exact Nat.le_refl _), h.1, Nat.sub_self]
    exact hv
theorem sb_own {w : World} {base B : Nat} {v : Value} {l : List Int} (h : w.ownsRow B 5 1 v l.length (l.map (Value.int .u8))) (hb : BytesL l) : SB w base v l := by
  refine ⟨own_sl h, hb, ?_, fun b hv => ?_⟩
  · obtain ⟨ao, c, rfl, _⟩ := own_shape h
    rfl
  · obtain ⟨_, h2⟩ := h
    rcases h2 with ⟨rfl, _⟩ | ⟨g, cap, cur, rfl, _, hcur, _⟩
    · simp [Value.ownBlock] at hv
    · have hgg : g = b := by simpa [Value.ownBlock] using hv
      subst hgg
      exact Or.inr ⟨_, _, hcur⟩
def CutPost (l : List Int) (w : World) (e : Ending) (w' : World) : Prop :=
  ∃ u vs, e = .returned (.tuple #[u, .int .i64 (cutF (l.length + 1) l).2]) ∧ Sl w' 1 u (cutF (l.length + 1) l).1.length vs ∧ RowsT w' w.heap.size vs (cutF (l.length + 1) l).1 ∧ Below w.heap.size w w'
set_option maxHeartbeats 4000000 in
set_option maxRecDepth 100000 in
theorem cut_any (v : Value) (n : Nat) (l : List Int) (w : World) (hv : Sl w 1 v n (l.map (Value.int .u8))) (hl : l.length = n) (hb : BytesL l) (hn : n ≤ 100000) :
    Calls Try.prog 22 #[v] w (CutPost l w) := by
  obtain ⟨ao, c, rfl, hnc, hc, _⟩ := hv.shape
  have HV := Lib.hid hv
  have HB := Lib.hid hb
  have HL := Lib.hid hl
  obtain ⟨R, hR⟩ : ∃ R, cutF (l.length + 1) l = R := ⟨_, rfl⟩
  have HR := Lib.hid hR
  have HR0 : Hid (cutF (n + 1) l = R) := Lib.hid (by rw [← hR, hl])
  clear hv hb hl hR
  go_enter Try.func22, Try.ntmps22
  go_wp2_with fail
  go_loopw [4, 5] (fun u i wx => ∃ (at' f m : Nat) (vs : List Value) (L : List (List Int)), at' ≤ n ∧ n - at' < 9 * f ∧ 9 * m ≤ at' ∧ i = .int .i64 at' ∧ Hid (R = (L ++ (cutF f (l.drop at')).1, at' + (cutF f (l.drop at')).2)) ∧ Hid (L.length = m) ∧ Hid (wx.ownsRow w.heap.size 23 1 u m vs) ∧ Hid (RowsT wx w.heap.size vs L) ∧ Hid (Below w.heap.size w wx)) (fun _ i _ => n - (intOf i).toNat)
  case atStart => exact ⟨0, n + 1, 0, [], [], by omega, by omega, by omega, rfl, Lib.hid (by rw [← HR0.out]; simp), rfl, Lib.hid (World.ownsRow_nil _ _ _ _), Lib.hid (RowsT.nil _ _), Lib.hid (Below.refl _ _)⟩
  case round =>
    obtain ⟨at', f, m, vs, L, hat, hf, hm, rfl, HREL, HLM, HO, HRT, HBW⟩ := hrel
    obtain ⟨uo, uc, rfl, _, _, _⟩ := own_shape HO.out
    have HVr := Lib.hid (HV.out.below HBW.out)
    have hsz := HBW.out.size
    obtain ⟨f, rfl⟩ : ∃ g, f = g + 1 := ⟨f - 1, by omega⟩
    go_wp2_with (with_reducible refine wpList_from (o := ⟨some 12, _, _, _, _, _⟩) at' elU8 rfl rfl rfl ⟨_, rfl⟩ HVr.out hat ?_; intro ao2 c2 hs2)
    have hs3 := bytes_cut hs2
    rw [List.take_of_length_le (by rw [List.length_drop, HL.out]; exact Nat.le_refl _)] at hs3
    have HF := Lib.hid (first_any _ (n - at') (l.drop at') wr hs3 (by rw [List.length_drop, HL.out]) (bytesL_drop HB.out _) (by omega))
    clear hs2 hs3
    go_wp2_with fail
    refine HF.out.mono ?_
    rintro e w2 ⟨hb2, hcase⟩
    have HBW2 := Lib.hid (HBW.out.trans (hb2.mono hsz))
    rcases hcase with ⟨hnone, fa, fb, rfl⟩ | ⟨rec, q, rv, hsome, hq1, hq2, hbr, rfl, hown⟩
    · have HE : Hid (R = (L, at')) := Lib.hid (by rw [HREL.out, cut_none f hnone]; simp)
      have HO2 := Lib.hid (own_below HO.out hb2)
      have HRT2 := Lib.hid (HRT.out.below hb2)
      clear hnone HREL
      go_wp2_with fail
      go_ret2
      show CutPost _ _ _ _
      unfold CutPost
      rw [HR.out, HE.out]
      refine ⟨_, vs, rfl, ?_, HRT2.out, HBW2.out⟩
      rw [HLM.out]
      exact own_sl HO2.out
    · rw [List.length_drop, HL.out] at hq1
      obtain ⟨ro, rc, rfl, _, _, _⟩ := own_shape hown
      have HRn : Hid (R = ((L ++ [rec]) ++ (cutF f (l.drop (at' + q))).1, (at' + q : Nat) + (cutF f (l.drop (at' + q))).2)) := Lib.hid (by
        rw [HREL.out, cut_some f hsome, List.drop_drop]
        simp [Nat.add_assoc])
      have hown2 := own_below HO.out hb2
      have HRT2 := Lib.hid (HRT.out.below hb2)
      have HSB : Hid (SB w2 w.heap.size (.slice ro rec.length rc) rec) := Lib.hid (sb_own hown hbr)
      have hone := HSB.out.2.2.1
      have hsz2 := HBW2.out.size
      clear hsome HREL hown
      go_wp2_with (at_builtin; refine append1 [.slice ro rec.length rc] elSl rfl _ _ rfl hown2 HBW2.out hsz2 rfl rfl rfl (by intro x hx; simp at hx; subst hx; exact hone) ?c4 ?c5 ?_)
      case c4 => omega
      case c5 => omega
      intro v' w3 hown3 hb3 hg3
      have HO3 := Lib.hid hown3
      have HBW3 := Lib.hid hb3
      have HRT3 : Hid (RowsT w3 w.heap.size (vs ++ [.slice ro rec.length rc]) (L ++ [rec])) := Lib.hid ((HRT2.out.grown hown2 hg3).snoc (HSB.out.grown hown2 hg3))
      have HLM3 : Hid ((L ++ [rec]).length = m + 1) := Lib.hid (by rw [List.length_append, HLM.out]; rfl)
      clear hown3 hb3 hg3 hown2
      go_wp2_with fail
      go_roundw
      case rel => exact ⟨at' + q, f, m + 1, _, _, by omega, by omega, by omega, by go_num, HRn, HLM3, HO3, HRT3, HBW3⟩
      case measure => simp [intOf]; omega
end Go.Proofs.Ytckpabminhkndaa.Log
