/-
  Matches: the walks of CheckMatch and MatchFault.
-/
import Derived.Test.YtlfhcjhbnakamaaIz4
import Derived.Test.YtlfhcjhbnakamaaIz5
import Derived.Lib.IndexMore
import Derived.Laws.IdiomCopy
import Derived.Lib.AppendZerosOnto
import Derived.Lib.Overlaps
import Derived.Deep.RegionLaw
namespace Go.Proofs.Ytlfhcjhbnakamaa.Lab
open Go.RowKit Go.Gh
set_option linter.unusedVariables false
set_option linter.unusedSimpArgs false
set_option maxHeartbeats 8000000 in
set_option maxRecDepth 100000 in
theorem mtcheck_any (v : Value) (L : List Mt) (w : World) (hs : Sp MtR 3 w v L) : Calls Try.prog 66 #[v] w fun e w' => e = .returned (.int .i64 (matchF L)) ∧ Below w.heap.size w w' := by
  obtain ⟨n, hn⟩ : ∃ n, L.length = n := ⟨_, rfl⟩
  obtain ⟨ao, c, rfl, hnc, hc⟩ := hs.shapeN hn
  have HN := Lib.hid hn
  obtain ⟨F, hF⟩ : ∃ F, matchF L = F := ⟨_, rfl⟩
  rw [hF]
  have HS := Lib.hid hs
  by_cases hbig : 10 < n
  · have hF2 : F = 2 := by rw [← hF]; exact if_pos (by omega)
    clear hn hF hs
    subst hF2
    go_enter Try.func66, Try.ntmps66
    go_wp2_with fail
    go_ret
    exact ⟨rfl, Below.refl _ _⟩
  have HG : Hid (F = goM L) := Lib.hid (by rw [← hF]; exact if_neg (by omega))
  clear hn hF hs
  go_enter Try.func66, Try.ntmps66
  go_wp2_with fail
  go_loopw [10] (fun i wr => ∃ k : Nat, k ≤ n ∧ i = .int .i64 k ∧ Hid (F = goM (L.drop k)) ∧ Below w.heap.size w wr) (fun i _ => n - (intOf i).toNat)
  case atStart => exact ⟨0, Nat.zero_le _, rfl, HG, Below.refl _ _⟩
  case round =>
    obtain ⟨k, hk, rfl, HF, hbr⟩ := hrel
    by_cases hlt : k < n
    case neg =>
      obtain rfl : k = n := by omega
      have h0 : F = 0 := by rw [HF.out, List.drop_of_length_le (Nat.le_of_eq HN.out)]; rfl
      subst h0
      go_wp2_with fail
      go_ret
      exact ⟨rfl, hbr⟩
    obtain ⟨x, hx⟩ : ∃ x, L[k]? = some x := ⟨_, List.getElem?_eq_getElem (by rw [HN.out]; exact hlt)⟩
    obtain ⟨b, off, cs, rfl, ⟨rfl, hb1, hb2, hk1, hk2⟩, _, hck⟩ := (HS.out.below mtR_mono hbr).get hx
    have HF2 : Hid (F = if x.kd < 1 ∨ 4 < x.kd then 1 else if nameOk x.nm = false then 4 else if 40 < x.vl.length then 2 else goM (L.drop (k + 1))) := Lib.hid (by rw [HF.out, drop_at' hx, goM])
    have c0 := hck 0 _ rfl
    have c1 := hck 1 _ rfl
    have c2 := hck 2 _ rfl
    rw [Nat.add_zero] at c0
    have HNC := Lib.hid (fun w => name_any x.nm w hb1)
    have HVS : Hid ((mkS x.vl).size = x.vl.length) := Lib.hid (mkS_size _)
    generalize hSx : mkS x.nm = S at *
    generalize mkS x.vl = V at *
    obtain ⟨K, hK⟩ : ∃ K, x.kd = K := ⟨_, rfl⟩
    rw [hK] at HF2 c0 hk1 hk2
    obtain ⟨B, hB⟩ : ∃ B, nameOk x.nm = B := ⟨_, rfl⟩
    rw [hB] at HF2 HNC
    obtain ⟨q, hq⟩ : ∃ q, x.vl.length = q := ⟨_, rfl⟩
    rw [hq] at HF2 HVS
    clear hck hx HF hB hq hb1 hb2 hSx
    have hBa := hbr.alloc hbr.size (Obj.cells #[.int .i64 K, .string S, .string V] 102)
    have hbox := heap_alloc_new wr (Obj.cells #[.int .i64 K, .string S, .string V] 102)
    have HBA := Lib.hid hBa
    have HBX := Lib.hid hbox
    clear hbox hK
    by_cases hkl : K < 1
    · have h4 : F = 1 := by rw [HF2.out, if_pos (Or.inl hkl)]
      subst h4
      go_wp2_with fail
      go_ret
      exact ⟨rfl, hBa⟩
    by_cases hkg : 4 < K
    · have h4 : F = 1 := by rw [HF2.out, if_pos (Or.inr hkg)]
      subst h4
      go_wp2_with fail
      go_ret
      exact ⟨rfl, hBa⟩
    have HF3 : Hid (F = if B = false then 4 else if 40 < q then 2 else goM (L.drop (k + 1))) := Lib.hid (by rw [HF2.out, if_neg (by omega)])
    cases B with
    | false =>
      have h4 : F = 4 := by rw [HF3.out, if_pos rfl]
      subst h4
      go_wp2_with fail
      refine (HNC.out _).mono ?_
      rintro e w2 ⟨rfl, hb2⟩
      go_wp2_with fail
      go_ret
      exact ⟨rfl, HBA.out.trans (hb2.mono HBA.out.size)⟩
    | true =>
    go_wp2_with fail
    refine (HNC.out _).mono ?_
    rintro e w2 ⟨rfl, hb2⟩
    have HB2 := Lib.hid (HBA.out.trans (hb2.mono HBA.out.size))
    obtain ⟨⟨x0, x1, x2⟩, -⟩ := bx3 ((hb2.block _ (Array.getElem?_eq_some_iff.1 HBX.out).1).trans HBX.out)
    clear hb2 hBa
    have hvq := HVS.out
    by_cases h40 : 40 < q
    · have h2 : F = 2 := by rw [HF3.out, if_neg (by decide), if_pos h40]
      subst h2
      go_wp2_with fail
      go_ret
      exact ⟨rfl, HB2.out⟩
    · have HF4 : Hid (F = goM (L.drop (k + 1))) := Lib.hid (by rw [HF3.out, if_neg (by decide), if_neg h40])
      go_wp2_with fail
      go_roundw
      case rel => exact ⟨k + 1, by omega, by go_num, HF4, HB2.out⟩
      case measure => simp [intOf]; omega
set_option maxHeartbeats 8000000 in
set_option maxRecDepth 100000 in
theorem mtfault_any (v : Value) (L : List Mt) (w : World) (hs : Sp MtR 3 w v L) : Calls Try.prog 45 #[v] w fun e w' => e = .returned (.int .i64 (matchF L)) ∧ Below w.heap.size w w' := by
  obtain ⟨n, hn⟩ : ∃ n, L.length = n := ⟨_, rfl⟩
  obtain ⟨ao, c, rfl, hnc, hc⟩ := hs.shapeN hn
  have HN := Lib.hid hn
  obtain ⟨F, hF⟩ : ∃ F, matchF L = F := ⟨_, rfl⟩
  rw [hF]
  have HS := Lib.hid hs
  by_cases hbig : 10 < n
  · have hF2 : F = 2 := by rw [← hF]; exact if_pos (by omega)
    clear hn hF hs
    subst hF2
    go_enter Try.func45, Try.ntmps45
    go_wp2_with fail
    go_ret
    exact ⟨rfl, Below.refl _ _⟩
  have HG : Hid (F = goM L) := Lib.hid (by rw [← hF]; exact if_neg (by omega))
  clear hn hF hs
  go_enter Try.func45, Try.ntmps45
  go_wp2_with fail
  go_loopw [10] (fun i wr => ∃ k : Nat, k ≤ n ∧ i = .int .i64 k ∧ Hid (F = goM (L.drop k)) ∧ Below w.heap.size w wr) (fun i _ => n - (intOf i).toNat)
  case atStart => exact ⟨0, Nat.zero_le _, rfl, HG, Below.refl _ _⟩
  case round =>
    obtain ⟨k, hk, rfl, HF, hbr⟩ := hrel
    by_cases hlt : k < n
    case neg =>
      obtain rfl : k = n := by omega
      have h0 : F = 0 := by rw [HF.out, List.drop_of_length_le (Nat.le_of_eq HN.out)]; rfl
      subst h0
      go_wp2_with fail
      go_ret
      exact ⟨rfl, hbr⟩
    obtain ⟨x, hx⟩ : ∃ x, L[k]? = some x := ⟨_, List.getElem?_eq_getElem (by rw [HN.out]; exact hlt)⟩
    obtain ⟨b, off, cs, rfl, ⟨rfl, hb1, hb2, hk1, hk2⟩, _, hck⟩ := (HS.out.below mtR_mono hbr).get hx
    have HF2 : Hid (F = if x.kd < 1 ∨ 4 < x.kd then 1 else if nameOk x.nm = false then 4 else if 40 < x.vl.length then 2 else goM (L.drop (k + 1))) := Lib.hid (by rw [HF.out, drop_at' hx, goM])
    have c0 := hck 0 _ rfl
    have c1 := hck 1 _ rfl
    have c2 := hck 2 _ rfl
    rw [Nat.add_zero] at c0
    have HNC := Lib.hid (fun w => goodname_any x.nm w hb1)
    have HVS : Hid ((mkS x.vl).size = x.vl.length) := Lib.hid (mkS_size _)
    generalize hSx : mkS x.nm = S at *
    generalize mkS x.vl = V at *
    obtain ⟨K, hK⟩ : ∃ K, x.kd = K := ⟨_, rfl⟩
    rw [hK] at HF2 c0 hk1 hk2
    obtain ⟨B, hB⟩ : ∃ B, nameOk x.nm = B := ⟨_, rfl⟩
    rw [hB] at HF2 HNC
    obtain ⟨q, hq⟩ : ∃ q, x.vl.length = q := ⟨_, rfl⟩
    rw [hq] at HF2 HVS
    clear hck hx HF hB hq hb1 hb2 hSx
    have hBa := hbr.alloc hbr.size (Obj.cells #[.int .i64 K, .string S, .string V] 102)
    have hbox := heap_alloc_new wr (Obj.cells #[.int .i64 K, .string S, .string V] 102)
    have HBA := Lib.hid hBa
    have HBX := Lib.hid hbox
    clear hbox hK
    by_cases hkl : K < 1
    · have h4 : F = 1 := by rw [HF2.out, if_pos (Or.inl hkl)]
      subst h4
      go_wp2_with fail
      go_ret
      exact ⟨rfl, hBa⟩
    by_cases hkg : 4 < K
    · have h4 : F = 1 := by rw [HF2.out, if_pos (Or.inr hkg)]
      subst h4
      go_wp2_with fail
      go_ret
      exact ⟨rfl, hBa⟩
    have HF3 : Hid (F = if B = false then 4 else if 40 < q then 2 else goM (L.drop (k + 1))) := Lib.hid (by rw [HF2.out, if_neg (by omega)])
    cases B with
    | false =>
      have h4 : F = 4 := by rw [HF3.out, if_pos rfl]
      subst h4
      go_wp2_with fail
      refine (HNC.out _).mono ?_
      rintro e w2 ⟨rfl, hb2⟩
      go_wp2_with fail
      go_ret
      exact ⟨rfl, HBA.out.trans (hb2.mono HBA.out.size)⟩
    | true =>
    go_wp2_with fail
    refine (HNC.out _).mono ?_
    rintro e w2 ⟨rfl, hb2⟩
    have HB2 := Lib.hid (HBA.out.trans (hb2.mono HBA.out.size))
    obtain ⟨⟨x0, x1, x2⟩, -⟩ := bx3 ((hb2.block _ (Array.getElem?_eq_some_iff.1 HBX.out).1).trans HBX.out)
    clear hb2 hBa
    have hvq := HVS.out
    by_cases h40 : 40 < q
    · have h2 : F = 2 := by rw [HF3.out, if_neg (by decide), if_pos h40]
      subst h2
      go_wp2_with fail
      go_ret
      exact ⟨rfl, HB2.out⟩
    · have HF4 : Hid (F = goM (L.drop (k + 1))) := Lib.hid (by rw [HF3.out, if_neg (by decide), if_neg h40])
      go_wp2_with fail
      go_roundw
      case rel => exact ⟨k + 1, by omega, by go_num, HF4, HB2.out⟩
      case measure => simp [intOf]; omega
end Go.Proofs.Ytlfhcjhbnakamaa.Lab
/-
  Labels that fit matches: as plain functions; the walks of Value and ValueIn.
-/
namespace Go.Gh
set_option linter.unusedVariables false
set_option linter.unusedSimpArgs false
/-- The value of a name: the first one's. -/
def valF (L : List Lb) (n : By) : By := match L.find? (fun x => decide (x.nm = n)) with | some x => x.vl | none => []
def valStep (n : By) (v : By) (x : Lb) : By := if x.nm = n then x.vl else v
/-- .. the last one's. -/
def valL (L : List Lb) (n : By) : By := L.foldl (valStep n) []
theorem valF_hit {L : List Lb} {n : By} {k : Nat} {x : Lb} (h : ∀ y ∈ L.take k, y.nm ≠ n) (hx : L[k]? = some x) (hn : x.nm = n) : valF L n = x.vl := by
  obtain ⟨h1, h2⟩ := List.getElem?_eq_some_iff.1 hx
  have e : L = L.take k ++ x :: L.drop (k + 1) := by
    rw [← h2, ← List.drop_eq_getElem_cons h1, List.take_append_drop]
  unfold valF
  rw [e, List.find?_append]
  have h0 : (L.take k).find? (fun x => decide (x.nm = n)) = none := by
    rw [List.find?_eq_none]
    intro y hy
    simpa using h y hy
  rw [h0, List.find?_cons]
  simp [hn]
theorem valF_none {L : List Lb} {n : By} (h : ∀ y ∈ L, y.nm ≠ n) : valF L n = [] := by
  unfold valF
  have h0 : L.find? (fun x => decide (x.nm = n)) = none := by
    rw [List.find?_eq_none]
    intro y hy
    simpa using h y hy
  rw [h0]
theorem valL_next {L : List Lb} {n : By} {k : Nat} {x : Lb} (hx : L[k]? = some x) : valL (L.take (k + 1)) n = if x.nm = n then x.vl else valL (L.take k) n := by
  unfold valL
  rw [List.take_add_one, hx, List.foldl_append]
  rfl
theorem goL_gt : ∀ (l : List Lb) (q : By), goL (some q) l = 0 → ∀ x ∈ l, q < x.nm
  | [], q, _, x, hx => by simp at hx
  | y :: r, q, h, x, hx => by
    rw [goL_cons] at h
    split at h
    · exact absurd h (by decide)
    split at h
    · exact absurd h (by decide)
    rename_i h2
    split at h
    · exact absurd h (by decide)
    have hq : q < y.nm := by
      unfold badO at h2
      simpa using h2
    rcases List.mem_cons.1 hx with rfl | hx
    · exact hq
    · exact List.lt_trans hq (goL_gt r y.nm h x hx)
theorem fold_none {n : By} : ∀ (l : List Lb) (v : By), (∀ x ∈ l, x.nm ≠ n) → l.foldl (valStep n) v = v
  | [], v, _ => rfl
  | x :: l, v, h => by
    rw [List.foldl_cons]
    have : valStep n v x = v := by unfold valStep; rw [if_neg (h x (by simp))]
    rw [this]
    exact fold_none l v (fun y hy => h y (by simp [hy]))
theorem fold_find {n : By} : ∀ (l : List Lb) (p : Option By), goL p l = 0 → l.foldl (valStep n) [] = match l.find? (fun x => decide (x.nm = n)) with | some x => x.vl | none => []
  | [], _, _ => rfl
  | x :: l, p, h => by
    rw [goL_cons] at h
    split at h
    · exact absurd h (by decide)
    split at h
    · exact absurd h (by decide)
    split at h
    · exact absurd h (by decide)
    rw [List.foldl_cons, List.find?_cons]
    by_cases hx : x.nm = n
    · have e : valStep n [] x = x.vl := by unfold valStep; rw [if_pos hx]
      rw [e, decide_eq_true hx]
      exact fold_none l x.vl (fun y hy e => by
        have := goL_gt l x.nm h y hy
        rw [hx, e] at this
        exact absurd this (List.lt_irrefl _))
    · have e : valStep n [] x = [] := by unfold valStep; rw [if_neg hx]
      rw [e, decide_eq_false hx]
      exact fold_find l (some x.nm) h
theorem val_same {L : List Lb} (h : labelF L = 0) (n : By) : valL L n = valF L n := by
  unfold labelF at h
  split at h
  · exact absurd h (by decide)
  · exact fold_find L none h
/-- Does a match fit? -/
def fitB (L : List Lb) (m : Mt) : Bool :=
  if m.kd = 1 then decide (valF L m.nm = m.vl) else if m.kd = 2 then !decide (valF L m.nm = m.vl) else if m.kd = 3 then m.vl.isPrefixOf (valF L m.nm) else Lib.contains (valF L m.nm) m.vl
def fitsB (L : List Lb) (M : List Mt) : Bool := M.all (fitB L)
theorem fits_yes {L : List Lb} {M : List Mt} {k : Nat} {x : Mt} (h : (M.take k).all (fitB L) = true) (hx : M[k]? = some x) (hf : fitB L x = true) : (M.take (k + 1)).all (fitB L) = true := by
  rw [List.take_add_one, hx, List.all_append, h]
  simp [hf]
theorem fits_no {L : List Lb} {M : List Mt} {k : Nat} {x : Mt} (hx : M[k]? = some x) (hf : fitB L x = false) : fitsB L M = false := by
  unfold fitsB
  rw [List.all_eq_false]
  exact ⟨x, List.mem_of_getElem? hx, by rw [hf]; simp⟩
/-- Is there one among the first k places? -/
theorem contains_upto (v s : By) : Lib.contains v s = (List.range (v.length + 1)).any fun i => s.isPrefixOf (v.drop i) := by
  unfold Lib.contains
  rw [Bool.eq_iff_iff, decide_eq_true_eq, List.any_eq_true]
  rcases Lib.index_spec v s with ⟨h1, h2⟩ | ⟨i, h1, h2, h3, _⟩
  · constructor
    · intro h; omega
    · rintro ⟨j, hj, hp⟩
      have := h2 j (by have := List.mem_range.1 hj; omega)
      unfold Lib.occAt at this
      rw [this] at hp
      simp at hp
  · constructor
    · intro _
      exact ⟨i, List.mem_range.2 (by omega), h3⟩
    · intro _; omega
theorem any_next (v s : By) (k : Nat) : ((List.range (k + 1)).any fun i => s.isPrefixOf (v.drop i)) = (((List.range k).any fun i => s.isPrefixOf (v.drop i)) || s.isPrefixOf (v.drop k)) := by
  rw [List.range_succ, List.any_append]
  simp
end Go.Gh
namespace Go.Proofs.Ytlfhcjhbnakamaa.Lab
open Go.RowKit Go.Gh
set_option linter.unusedVariables false
set_option linter.unusedSimpArgs false
set_option maxHeartbeats 4000000 in
set_option maxRecDepth 100000 in
theorem value_any (v : Value) (L : List Lb) (nm : By) (w : World) (hs : Sp LbR 2 w v L) : Calls Try.prog 102 #[v, .string (mkS nm)] w fun e w' => e = .returned (.string (mkS (valF L nm))) ∧ Below w.heap.size w w' := by
  obtain ⟨n, hn⟩ : ∃ n, L.length = n := ⟨_, rfl⟩
  obtain ⟨ao, c, rfl, hnc, hc⟩ := hs.shapeN hn
  have HN := Lib.hid hn
  have HS := Lib.hid hs
  obtain ⟨R, hR⟩ : ∃ R, mkS (valF L nm) = R := ⟨_, rfl⟩
  rw [hR]
  have HR := Lib.hid hR
  obtain ⟨Q, hQ⟩ : ∃ Q, mkS nm = Q := ⟨_, rfl⟩
  rw [hQ]
  have HQ := Lib.hid hQ
  clear hn hs hR hQ
  go_enter Try.func102, Try.ntmps102
  go_wp2_with fail
  go_loopw [9] (fun i wr => ∃ (k : Nat), k ≤ n ∧ i = .int .i64 k ∧ Hid (∀ y ∈ L.take k, y.nm ≠ nm) ∧ Below w.heap.size w wr) (fun i _ => n - (intOf i).toNat)
  case atStart => exact ⟨0, Nat.zero_le _, rfl, Lib.hid (fun y hy => by simp at hy), Below.refl _ _⟩
  case round =>
    obtain ⟨k, hk, rfl, HT, hbel⟩ := hrel
    have hsz := hbel.size
    by_cases hlt : k < n
    case neg =>
      obtain rfl : k = n := by omega
      have HF : Hid (R = ⟨#[]⟩) := Lib.hid (by
        have h := HT.out
        rw [List.take_of_length_le (by rw [HN.out]; exact Nat.le_refl _)] at h
        rw [← HR.out, valF_none h]
        rfl)
      go_wp2_with fail
      go_ret
      exact ⟨by rw [HF.out]; rfl, hbel⟩
    obtain ⟨x, hx⟩ : ∃ x, L[k]? = some x := ⟨_, List.getElem?_eq_getElem (by rw [HN.out]; exact hlt)⟩
    obtain ⟨b, off, cs, rfl, ⟨rfl, hl1, hl2⟩, _, hck⟩ := (HS.out.below lbR_mono hbel).get hx
    have HX := Lib.hid hx
    have c0 := hck 0 _ rfl
    have c1 := hck 1 _ rfl
    rw [Nat.add_zero] at c0
    have heq : ((mkS x.nm).toList == Q.toList) = decide (x.nm = nm) := by
      rw [← HQ.out, mkS_list, mkS_list, Bool.eq_iff_iff]
      simp
    obtain ⟨Sn, hSn⟩ : ∃ S, mkS x.nm = S := ⟨_, rfl⟩
    obtain ⟨V, hV⟩ : ∃ S, mkS x.vl = S := ⟨_, rfl⟩
    rw [hSn] at c0 heq
    rw [hV] at c1
    have HV := Lib.hid hV
    clear hck hx hl1 hl2 hSn hV
    by_cases he : x.nm = nm
    · rw [decide_eq_true he] at heq
      have HF : Hid (R = V) := Lib.hid (by rw [← HR.out, valF_hit HT.out HX.out he]; exact HV.out)
      clear he
      go_wp2_with fail
      go_ret
      refine ⟨by rw [HF.out]; rfl, ?_⟩
      exact hbel.alloc hsz _
    · rw [decide_eq_false he] at heq
      have HT2 : Hid (∀ y ∈ L.take (k + 1), y.nm ≠ nm) := Lib.hid (fun y hy => by
        rw [List.take_add_one, HX.out] at hy
        rcases List.mem_append.1 hy with h | h
        · exact HT.out y h
        · have : y = x := by simpa using h
          rw [this]; exact he)
      have HB2 := Lib.hid (hbel.alloc hsz (Obj.cells #[.string Sn, .string V] 67))
      clear he
      go_wp2_with fail
      go_roundw
      case rel => exact ⟨k + 1, by omega, by go_num, HT2, HB2.out⟩
      case measure => simp [intOf]; omega
set_option maxHeartbeats 4000000 in
set_option maxRecDepth 100000 in
theorem valuein_any (v : Value) (L : List Lb) (nm : By) (w : World) (hs : Sp LbR 2 w v L) : Calls Try.prog 70 #[v, .string (mkS nm)] w fun e w' => e = .returned (.string (mkS (valL L nm))) ∧ Below w.heap.size w w' := by
  obtain ⟨n, hn⟩ : ∃ n, L.length = n := ⟨_, rfl⟩
  obtain ⟨ao, c, rfl, hnc, hc⟩ := hs.shapeN hn
  have HN := Lib.hid hn
  have HS := Lib.hid hs
  obtain ⟨Q, hQ⟩ : ∃ Q, mkS nm = Q := ⟨_, rfl⟩
  rw [hQ]
  have HQ := Lib.hid hQ
  clear hn hs hQ
  go_enter Try.func70, Try.ntmps70
  go_wp2_with fail
  go_loopw [5, 10] (fun u i wr => ∃ (k : Nat), k ≤ n ∧ i = .int .i64 k ∧ u = .string (mkS (valL (L.take k) nm)) ∧ Below w.heap.size w wr) (fun _ i _ => n - (intOf i).toNat)
  case atStart => exact ⟨0, Nat.zero_le _, rfl, rfl, Below.refl _ _⟩
  case round =>
    obtain ⟨k, hk, rfl, rfl, hbel⟩ := hrel
    have hsz := hbel.size
    by_cases hlt : k < n
    case neg =>
      obtain rfl : k = n := by omega
      have HF : Hid (valL (L.take k) nm = valL L nm) := Lib.hid (by rw [List.take_of_length_le (by rw [HN.out]; exact Nat.le_refl _)])
      go_wp2_with fail
      go_ret
      exact ⟨by rw [← HF.out]; rfl, hbel⟩
    obtain ⟨x, hx⟩ : ∃ x, L[k]? = some x := ⟨_, List.getElem?_eq_getElem (by rw [HN.out]; exact hlt)⟩
    obtain ⟨b, off, cs, rfl, ⟨rfl, hl1, hl2⟩, _, hck⟩ := (HS.out.below lbR_mono hbel).get hx
    have HVN := Lib.hid (valL_next (n := nm) hx)
    have c0 := hck 0 _ rfl
    have c1 := hck 1 _ rfl
    rw [Nat.add_zero] at c0
    have heq : ((mkS x.nm).toList == Q.toList) = decide (x.nm = nm) := by
      rw [← HQ.out, mkS_list, mkS_list, Bool.eq_iff_iff]
      simp
    obtain ⟨Sn, hSn⟩ : ∃ S, mkS x.nm = S := ⟨_, rfl⟩
    obtain ⟨V, hV⟩ : ∃ S, mkS x.vl = S := ⟨_, rfl⟩
    rw [hSn] at c0 heq
    rw [hV] at c1
    have HV := Lib.hid hV
    have HB2 := Lib.hid (hbel.alloc hsz (Obj.cells #[.string Sn, .string V] 67))
    clear hck hx hl1 hl2 hSn hV
    by_cases he : x.nm = nm
    · rw [decide_eq_true he] at heq
      have HF : Hid (V = mkS (valL (L.take (k + 1)) nm)) := Lib.hid (by rw [HVN.out, if_pos he]; exact HV.out.symm)
      clear he
      go_wp2_with fail
      go_roundw
      case rel => exact ⟨k + 1, by omega, by go_num, by rw [HF.out], HB2.out⟩
      case measure => simp [intOf]; omega
    · rw [decide_eq_false he] at heq
      have HF : Hid (valL (L.take k) nm = valL (L.take (k + 1)) nm) := Lib.hid (by rw [HVN.out, if_neg he])
      clear he
      go_wp2_with fail
      go_roundw
      case rel => exact ⟨k + 1, by omega, by go_num, by rw [HF.out], HB2.out⟩
      case measure => simp [intOf]; omega
end Go.Proofs.Ytlfhcjhbnakamaa.Lab
/-
  What an index holds, as plain functions; the map as it is read.
-/
namespace Go.Proofs.Ytlfhcjhbnakamaa.Iy
open Go.RowKit Go.Gh Go.Maps Go.WideShapes Go.ChangeShapes
set_option linter.unusedVariables false
set_option linter.unusedSimpArgs false
/-- The same label? -/
def sameB (x y : Lb) : Bool := decide (x.nm = y.nm ∧ x.vl = y.vl)
theorem sameB_iff {x y : Lb} : sameB x y = true ↔ x = y := by
  unfold sameB
  rw [decide_eq_true_eq]
  constructor
  · rintro ⟨h1, h2⟩
    cases x; cases y
    simp only at h1 h2
    rw [h1, h2]
  · rintro rfl
    exact ⟨rfl, rfl⟩
instance decLb (x y : Lb) : Decidable (x = y) := decidable_of_iff _ (sameB_iff (x := x) (y := y))
theorem sameB_self (x : Lb) : sameB x x = true := sameB_iff.2 rfl
/-- The places of a label among those that came so far. -/
def plc (E : List (Lb × Int)) (y : Lb) : List Int := (E.filter (fun p => sameB p.1 y)).map (·.2)
theorem plc_snoc (E : List (Lb × Int)) (y x : Lb) (i : Int) : plc (E ++ [(y, i)]) x = if y = x then plc E x ++ [i] else plc E x := by
  unfold plc
  rw [List.filter_append, List.map_append]
  by_cases h : y = x
  · rw [if_pos h, h]
    simp [sameB_self]
  · rw [if_neg h]
    have : sameB y x = false := by
      rw [← Bool.not_eq_true, sameB_iff]
      exact h
    simp [this]
theorem plc_len (E : List (Lb × Int)) (y : Lb) : (plc E y).length ≤ E.length := by
  unfold plc
  rw [List.length_map]
  exact List.length_filter_le _ _
theorem mem_plc {E : List (Lb × Int)} {y : Lb} {i : Int} : i ∈ plc E y ↔ (y, i) ∈ E := by
  unfold plc
  simp only [List.mem_map, List.mem_filter]
  constructor
  · rintro ⟨⟨a, b⟩, ⟨h1, h2⟩, rfl⟩
    rw [← sameB_iff.1 h2]
    exact h1
  · intro h
    exact ⟨(y, i), ⟨h, sameB_self y⟩, rfl⟩
abbrev DU := DataW Unit
def elD (zs : List Int) : DU := if zs = [] then .nil else .slice (lits .i64 zs) []
theorem lits_inj {a b : List Int} (h : (lits .i64 a : List DU) = lits .i64 b) : a = b := by
  unfold lits at h
  exact (List.map_inj_right (fun x y hxy => by cases hxy; rfl)).1 h
/-- The map reads as what came. -/
structure GrD (D : DU) (E : List (Lb × Int)) : Prop where
  tidy : Tidy D
  val : ∀ y, Fits2 y → D.atKey (kl y) .nil = elD (plc E y)
  has : ∀ l, Maps.has D l = true → ∃ y, Fits2 y ∧ l = kl y ∧ plc E y ≠ []
  mem : ∀ y, Fits2 y → plc E y ≠ [] → Maps.has D (kl y) = true
theorem GrD.empty : GrD (.map []) [] := ⟨tidy_empty, fun y _ => rfl, fun l h => by simp [has_eq] at h, fun y _ h => absurd rfl h⟩
theorem GrD.put {D : DU} {E : List (Lb × Int)} (h : GrD D E) {y : Lb} (hy : Fits2 y) (i : Int) : GrD (D.put (kl y) (.slice (lits .i64 (plc E y ++ [i])) [])) (E ++ [(y, i)]) := by
  refine ⟨h.tidy.put (kl_lit y) _, fun x hx => ?_, fun l hl => ?_, fun x hx hne => ?_⟩
  · rw [plc_snoc]
    by_cases e : y = x
    · subst e
      rw [if_pos rfl, atKey_put_same h.tidy.isMap (kl_lit y)]
      unfold elD
      rw [if_neg (by simp)]
    · rw [if_neg e, atKey_put_other (fun e2 => e (kl_inj hy hx e2.symm)), h.val x hx]
  · by_cases e : l = kl y
    · exact ⟨y, hy, e, by rw [plc_snoc, if_pos rfl]; simp⟩
    · rw [has_put_other e] at hl
      obtain ⟨x, hx, h1, h2⟩ := h.has l hl
      refine ⟨x, hx, h1, ?_⟩
      rw [plc_snoc]
      split
      · simp
      · exact h2
  · by_cases e : y = x
    · subst e
      exact has_put_same h.tidy.isMap (kl_lit y) _
    · rw [has_put_other (fun e2 => e (kl_inj hy hx e2.symm))]
      rw [plc_snoc, if_neg e] at hne
      exact h.mem x hx hne
theorem GrD.zs {D : DU} {E : List (Lb × Int)} (h : GrD D E) {y : Lb} (hy : Fits2 y) {w : World} {B : Nat} {e : TypeId} {v : Value} {zs : List Int} (ho : w.ownsInts B e .i64 v zs) (hat : D.atKey (kl y) .nil = rowDatum .i64 v zs) : zs = plc E y := by
  rw [h.val y hy] at hat
  unfold elD at hat
  rcases ho.datum (H := Unit) with ⟨h1, h2⟩ | h1
  · rw [h1] at hat
    split at hat
    · rename_i h3
      rw [h2, h3]
    · cases hat
  · rw [h1] at hat
    split at hat
    · cases hat
    · simp only [DataW.slice.injEq, and_true] at hat
      exact (lits_inj hat).symm
/-- The pairs of the first lists. -/
def prs : Nat → List (List Lb) → List (Lb × Int)
  | _, [] => []
  | n, l :: r => l.map (fun y => (y, (n : Int))) ++ prs (n + 1) r
theorem prs_append : ∀ (a b : List (List Lb)) (n : Nat), prs n (a ++ b) = prs n a ++ prs (n + a.length) b
  | [], b, n => by simp [prs]
  | l :: r, b, n => by
    rw [List.cons_append, prs, prs, prs_append r b (n + 1), List.append_assoc, List.length_cons]
    congr 3
    omega
theorem prs_take {L : List (List Lb)} {i : Nat} {l : List Lb} (h : L[i]? = some l) : prs 0 (L.take (i + 1)) = prs 0 (L.take i) ++ l.map (fun y => (y, (i : Int))) := by
  obtain ⟨h1, h2⟩ := List.getElem?_eq_some_iff.1 h
  rw [List.take_succ_eq_append_getElem h1, prs_append, h2]
  rw [List.length_take, Nat.min_eq_left (by omega), Nat.zero_add]
  simp [prs]
theorem mem_prs : ∀ (L : List (List Lb)) (n : Nat) (y : Lb) (i : Int), (y, i) ∈ prs n L ↔ ∃ j l, L[j]? = some l ∧ y ∈ l ∧ i = ((n + j : Nat) : Int)
  | [], n, y, i => by simp [prs]
  | l :: r, n, y, i => by
    rw [prs, List.mem_append, mem_prs r (n + 1) y i]
    simp only [List.mem_map, Prod.mk.injEq]
    constructor
    · rintro (⟨x, hx, rfl, rfl⟩ | ⟨j, m, h1, h2, h3⟩)
      · exact ⟨0, l, rfl, hx, by simp⟩
      · exact ⟨j + 1, m, by simpa using h1, h2, by rw [h3]; congr 1; omega⟩
    · rintro ⟨j, m, h1, h2, h3⟩
      cases j with
      | zero =>
        obtain rfl : l = m := by simpa using h1
        exact Or.inl ⟨y, h2, rfl, by rw [h3]; simp⟩
      | succ j => exact Or.inr ⟨j, m, by simpa using h1, h2, by rw [h3]; congr 1; omega⟩
theorem prs_len : ∀ (L : List (List Lb)) (n : Nat), (∀ l ∈ L, l.length ≤ 10) → (prs n L).length ≤ 10 * L.length
  | [], n, _ => by simp [prs]
  | l :: r, n, h => by
    rw [prs, List.length_append, List.length_map, List.length_cons]
    have := prs_len r (n + 1) (fun x hx => h x (by simp [hx]))
    have := h l (by simp)
    omega
/-- Which lists fit the matches. -/
def outF (L : List (List Lb)) (M : List Mt) : List Int := ((List.range L.length).filter (fun i => fitsB (L.getD i []) M)).map (fun i : Nat => (i : Int))
theorem ris_outF (L : List (List Lb)) (M : List Mt) : Ris (outF L M) := by
  unfold outF Ris
  rw [List.pairwise_map]
  refine List.Pairwise.filter _ (List.Pairwise.imp (fun {a b} h => ?_) List.pairwise_lt_range)
  omega
theorem mem_outF {L : List (List Lb)} {M : List Mt} {x : Int} : x ∈ outF L M ↔ ∃ i : Nat, i < L.length ∧ x = i ∧ fitsB (L.getD i []) M = true := by
  unfold outF
  simp only [List.mem_map, List.mem_filter, List.mem_range]
  constructor
  · rintro ⟨i, ⟨h1, h2⟩, rfl⟩
    exact ⟨i, h1, rfl, h2⟩
  · rintro ⟨i, h1, rfl, h2⟩
    exact ⟨i, ⟨h1, h2⟩, rfl⟩
theorem outF_len (L : List (List Lb)) (M : List Mt) : (outF L M).length ≤ L.length := by
  unfold outF
  rw [List.length_map]
  exact Nat.le_trans (List.length_filter_le _ _) (by simp)
theorem fits_snoc {L : List Lb} {M : List Mt} {k : Nat} {x : Mt} (hx : M[k]? = some x) : fitsB L (M.take (k + 1)) = (fitsB L (M.take k) && fitB L x) := by
  unfold fitsB
  rw [List.take_add_one, hx, List.all_append]
  simp
theorem outF_nil (L : List (List Lb)) : outF L [] = (List.range L.length).map (fun i : Nat => (i : Int)) := by
  unfold outF fitsB
  exact congrArg _ (List.filter_eq_self.2 (fun i _ => rfl))
/-- By the look of each. -/
theorem outF_filter {L : List (List Lb)} {M : List Mt} {k : Nat} {x : Mt} (hx : M[k]? = some x) : outF L (M.take (k + 1)) = (outF L (M.take k)).filter (fun i => fitB (L.getD i.toNat []) x) := by
  unfold outF
  rw [List.filter_map, List.filter_filter]
  congr 1
  refine List.filter_congr (fun i _ => ?_)
  rw [fits_snoc hx, Bool.and_comm]
  simp
theorem goL_nm : ∀ (l : List Lb) (p : Option By), goL p l = 0 → ∀ x ∈ l, x.vl.length ≤ 40 ∧ x.nm.length ≤ 20
  | [], _, _, x, hx => by simp at hx
  | y :: r, p, h, x, hx => by
    rw [goL] at h
    split at h
    · exact absurd h (by decide)
    rename_i h1
    split at h
    · exact absurd h (by decide)
    split at h
    · exact absurd h (by decide)
    rename_i h3
    rcases List.mem_cons.1 hx with rfl | hx
    · have := (nameOk_all (by simpa using h1 : nameOk x.nm = true)).2.1
      exact ⟨by omega, this⟩
    · exact goL_nm r _ h x hx
theorem label_fits {l : List Lb} (h : labelF l = 0) : ∀ x ∈ l, Fits2 x := by
  unfold labelF at h
  split at h
  · exact absurd h (by decide)
  · intro x hx
    have := goL_nm l none h x hx
    exact ⟨by omega, by omega⟩
theorem label_len {l : List Lb} (h : labelF l = 0) : l.length ≤ 10 := by
  unfold labelF at h
  split at h
  · exact absurd h (by decide)
  · omega
/-- A name is borne once. -/
theorem goL_uniq : ∀ (l : List Lb) (p : Option By), goL p l = 0 → ∀ x ∈ l, valF l x.nm = x.vl
  | [], _, _, x, hx => by simp at hx
  | y :: r, p, h, x, hx => by
    rw [goL] at h
    split at h
    · exact absurd h (by decide)
    split at h
    · exact absurd h (by decide)
    split at h
    · exact absurd h (by decide)
    rcases List.mem_cons.1 hx with rfl | hx
    · unfold valF
      simp
    · have hgt := goL_gt r y.nm h x hx
      have hne : ¬ y.nm = x.nm := fun e => by rw [e] at hgt; exact absurd hgt (List.lt_irrefl _)
      have ih := goL_uniq r _ h x hx
      unfold valF at ih ⊢
      rw [List.find?_cons_of_neg (by simpa using hne)]
      exact ih
theorem val_mem {l : List Lb} (h : labelF l = 0) {n v : By} (hv : v ≠ []) : valF l n = v ↔ (⟨n, v⟩ : Lb) ∈ l := by
  unfold labelF at h
  split at h
  · exact absurd h (by decide)
  constructor
  · intro hh
    unfold valF at hh
    cases hf : l.find? (fun x => decide (x.nm = n)) with
    | none => rw [hf] at hh; exact absurd hh.symm hv
    | some x =>
      rw [hf] at hh
      have h1 : x.nm = n := by simpa using List.find?_some hf
      have h2 := List.mem_of_find?_eq_some hf
      simp only at hh
      cases x
      simp only at h1 hh
      rw [← h1, ← hh]
      exact h2
  · intro hh
    exact goL_uniq l none h _ hh
/-- By the map. -/
theorem outF_and {L : List (List Lb)} {M : List Mt} {k : Nat} {x : Mt} (hL : ∀ l ∈ L, labelF l = 0) (hx : M[k]? = some x) (hk : x.kd = 1) (hv : x.vl ≠ []) : andL (setL (outF L (M.take k))) (setL (plc (prs 0 L) ⟨x.nm, x.vl⟩)) = outF L (M.take (k + 1)) := by
  refine ris_uniq ?_ (ris_outF _ _) (fun z => ?_)
  · exact ris_andL _ _ (ris_setL _) (ris_setL _)
  rw [mem_andL _ _ (ris_setL _) (ris_setL _), mem_setL, mem_setL, mem_outF, mem_outF, mem_plc, mem_prs]
  constructor
  · rintro ⟨⟨i, h1, rfl, h2⟩, j, l, h3, h4, h5⟩
    obtain rfl : i = j := by omega
    refine ⟨i, h1, rfl, ?_⟩
    have hl : L.getD i [] = l := by rw [List.getD_eq_getElem?_getD, h3]; rfl
    rw [fits_snoc hx, h2, hl, Bool.true_and]
    unfold fitB
    rw [if_pos hk, decide_eq_true_eq]
    exact (val_mem (hL l (List.mem_of_getElem? h3)) hv).2 h4
  · rintro ⟨i, h1, rfl, h2⟩
    rw [fits_snoc hx, Bool.and_eq_true] at h2
    refine ⟨⟨i, h1, rfl, h2.1⟩, i, L[i], List.getElem?_eq_getElem h1, ?_, by simp⟩
    have hl : L.getD i [] = L[i] := by rw [List.getD_eq_getElem?_getD, List.getElem?_eq_getElem h1]; rfl
    have h3 := h2.2
    rw [hl] at h3
    unfold fitB at h3
    rw [if_pos hk, decide_eq_true_eq] at h3
    exact (val_mem (hL _ (List.getElem_mem h1)) hv).1 h3
end Go.Proofs.Ytlfhcjhbnakamaa.Iy
/-
  Rows of the call's own in which an element is put in, or written over.
-/
namespace Go.Gh
open Go.RowKit
set_option linter.unusedVariables false
section
variable {α : Type} {k : Nat} {P : List (α × List Value)}
theorem pc_ins (P : List (α × List Value)) (a : α) (c : List Value) (i : Nat) : pc (P.take i ++ (a, c) :: P.drop i) = pc (P.take i) ++ (c ++ pc (P.drop i)) := by
  rw [pc_append, pc_cons]
theorem PK.ins (h : PK k P) {a : α} {c : List Value} (hc : c.length = k) (i : Nat) : PK k (P.take i ++ (a, c) :: P.drop i) := by
  intro p hp
  rcases List.mem_append.1 hp with h' | h'
  · exact h p (List.mem_of_mem_take h')
  · rcases List.mem_cons.1 h' with h'' | h''
    · rw [h'']; exact hc
    · exact h p (List.mem_of_mem_drop h'')
theorem PK.set (h : PK k P) {a : α} {c : List Value} (hc : c.length = k) (i : Nat) : PK k (P.set i (a, c)) := by
  intro p hp
  rcases List.mem_or_eq_of_mem_set hp with h' | h'
  · exact h p h'
  · rw [h']; exact hc
theorem map_ins (P : List (α × List Value)) (a : α) (c : List Value) (i : Nat) : (P.take i ++ (a, c) :: P.drop i).map (·.1) = (P.map (·.1)).take i ++ a :: (P.map (·.1)).drop i := by
  rw [List.map_append, List.map_cons, List.map_take, List.map_drop]
theorem map_set (P : List (α × List Value)) (a : α) (c : List Value) (i : Nat) : (P.set i (a, c)).map (·.1) = (P.map (·.1)).set i a := by
  rw [List.map_set]
theorem all_ins {Q : α × List Value → Prop} (h : ∀ p ∈ P, Q p) {a : α} {c : List Value} (hc : Q (a, c)) (i : Nat) : ∀ p ∈ P.take i ++ (a, c) :: P.drop i, Q p := by
  intro p hp
  rcases List.mem_append.1 hp with h' | h'
  · exact h p (List.mem_of_mem_take h')
  · rcases List.mem_cons.1 h' with h'' | h''
    · rw [h'']; exact hc
    · exact h p (List.mem_of_mem_drop h'')
theorem all_set {Q : α × List Value → Prop} (h : ∀ p ∈ P, Q p) {a : α} {c : List Value} (hc : Q (a, c)) (i : Nat) : ∀ p ∈ P.set i (a, c), Q p := by
  intro p hp
  rcases List.mem_or_eq_of_mem_set hp with h' | h'
  · exact h p h'
  · rw [h']; exact hc
/-- An element is put in at a place of a row that is the call's own. -/
theorem own_insP {w' : World} {B : Nat} {e : TypeId} {p j g cap : Nat} {a : α} {c : List Value} (h : w'.ownsRow B e k (.slice (some ⟨g, 0, none⟩) (j + (1 + (p - j))) cap) (j + (1 + (p - j))) ((pc P).take (j * k) ++ (c ++ (pc P).drop (j * k)))) (hk : PK k P) (hp : P.length = p) (hj : j ≤ p) :
    w'.ownsRow B e k (.slice (some ⟨g, 0, none⟩) (p + 1) cap) (p + 1) (pc (P.take j ++ (a, c) :: P.drop j)) := by
  rw [pc_ins, ← pc_take hk j, ← pc_drop hk j (by omega)]
  rw [show j + (1 + (p - j)) = p + 1 by omega] at h
  exact h
theorem own_insP_end {w' : World} {B : Nat} {e : TypeId} {j g cap : Nat} {a : α} {c : List Value} (h : w'.ownsRow B e k (.slice (some ⟨g, 0, none⟩) (j + 1) cap) (j + 1) ((pc P).take (j * k) ++ (c ++ (pc P).drop (j * k)))) (hk : PK k P) (hp : P.length = j) :
    w'.ownsRow B e k (.slice (some ⟨g, 0, none⟩) (j + 1) cap) (j + 1) (pc (P.take j ++ (a, c) :: P.drop j)) := by
  rw [pc_ins, ← pc_take hk j, ← pc_drop hk j (by omega)]
  exact h
/-- The cells of an element of a row that is the call's own. -/
theorem own_el {w : World} {B : Nat} {e : TypeId} {g n cap i : Nat} {p : α × List Value} (h : w.ownsRow B e k (.slice (some ⟨g, 0, none⟩) n cap) n (pc P)) (hk : PK k P) (hp : P[i]? = some p) (hi : i < n) : (∀ j u, p.2[j]? = some u → w.cell? ⟨g, i * k + j, none⟩ = some u) ∧ ∀ j, w.frozen? ⟨g, i * k + j, none⟩ = false := by
  obtain ⟨g', cap', e1, _, _, _, _, hc⟩ := own_some h (by omega)
  simp at e1
  obtain ⟨rfl, rfl⟩ := e1
  refine ⟨fun j u hu => ?_, fun j => h.frozenAt _⟩
  have hj : j < k := by
    have h1 := (List.getElem?_eq_some_iff.1 hu).1
    have h2 : p.2.length = k := hk p (List.mem_of_getElem? hp)
    omega
  exact hc _ _ (by rw [pc_get hk hp hj]; exact hu)
/-- An element of a row that is the call's own is written over. -/
theorem own_over {w : World} {B : Nat} {e : TypeId} {g n cap i : Nat} {a : α} {c : List Value} (h : w.ownsRow B e k (.slice (some ⟨g, 0, none⟩) n cap) n (pc P)) (hk : PK k P) (hi : i < P.length) (hc : c.length = k) : (setCells w g (i * k) c).ownsRow B e k (.slice (some ⟨g, 0, none⟩) n cap) n (pc (P.set i (a, c))) := by
  have := own_stores c w (i * k) (pc P) h
  rwa [pc_set hk hi hc] at this
end
end Go.Gh
/-
  copy at elements of whatever size; what slices.Insert leaves, as own rows.
-/
namespace Go.Gh
open Go.RowKit
set_option linter.unusedVariables false
theorem setCells_eq (b : Nat) : ∀ (vs : List Value) (o : Nat) (w : World), w.setCells b o vs = setCells w b o vs
  | [], _, _ => rfl
  | v :: vs, o, w => by rw [World.setCells, setCells, setCells_eq b vs]
theorem run_copy_k {P : Program} (w : World) (dT sT ty elem : TypeId) (k b o dLen dCap : Nat) (a : Addr) (sLen sCap m : Nat) (cs : List Value)
    (hu : P.underlying dT = some (.slice elem)) (hs : (P.info? elem).map (·.size) = some k) (hm : Nat.min sLen dLen = m) (hn : cs.length = m * k)
    (hsrc : ∀ j v, cs[j]? = some v → w.cell? (a.add j) = some v) (hc : ∀ j, j < cs.length → (w.cell? ⟨b, o + j, none⟩).isSome = true) (hf : ∀ j, j < cs.length → w.frozen? ⟨b, o + j, none⟩ = false) (h1 : ∀ v ∈ cs, v.oneCell' = true) :
    (Builtin.copy_ #[dT, sT] ty #[.slice (some ⟨b, o, none⟩) dLen dCap, .slice (some a) sLen sCap]).run P w = .ok (goInt m) (setCells w b o cs) := by
  have hl := run_loadCells_list (P := P) w a cs hsrc
  have hst := run_storeCells_cells (P := P) b o cs 0 w (by simpa using hc) (by simpa using hf) h1
  rw [hn] at hl
  rw [← setCells_eq]
  cases hq : P.info? elem with
  | none => simp [hq] at hs
  | some i =>
    have hi : i.size = k := by simpa [hq] using hs
    simp [Builtin.copy_, run_underlying hu, Builtin.lenOf, Builtin.firstCells, sizeOf, typeInfo, hq, hi, hm, hl, hst]
theorem wp_copy_run' {P : Program} (w : World) {o : Oper} {a : Act} {K : Act → World → Prop} {Q : Exit → Act → World → Prop} (d s : Operand) (t t' : TypeId)
    (ho : o.op = .call { callee := .builtin .copy, args := #[d, s], argTypes := #[t, t'] }) (v u : Value) (hd : a.eval d = v) (hs : a.eval s = u) {v' : Value} {w' : World}
    (hr : (Builtin.copy_ #[t, t'] o.type #[v, u]).run P w = .ok v' w') (h : K (a.put o.dst v') w') : o.wp P a w K Q := by
  unfold Oper.wp execOp
  simp only [ho, resolve, invoke, builtin, Sem.run_bind, Sem.run_pure, Result.andThen_ok, List.map_toArray, List.map_cons, List.map_nil, hd, hs, hr]
  exact h
theorem wpList_copy_run' {P : Program} (w : World) {ops : Array Oper} {rest : List Oper} {o : Oper} {a : Act} {Q : Exit → Act → World → Prop} (hgd : o.guard = none) (d s : Operand) (t t' : TypeId)
    (ho : o.op = .call { callee := .builtin .copy, args := #[d, s], argTypes := #[t, t'] }) (v u : Value) (hd : a.eval d = v) (hs : a.eval s = u) {v' : Value} {w' : World}
    (hr : (Builtin.copy_ #[t, t'] o.type #[v, u]).run P w = .ok v' w') (h : wpList P ops Q rest (a.put o.dst v') w') : wpList P ops Q (o :: rest) a w :=
  wpList_plain hgd fun _ hK => wp_copy_run' w d s t t' ho v u hd hs hr (hK _ _ h)
theorem step_copy_run' {P : Program} {ops : Array Oper} {o : Oper} {a : Act} {w : World} {K : Act → World → Prop} {Q : Exit → Act → World → Prop} {E : Prop}
    (hg : o.guard = none) (d x : Operand) (dT sT : TypeId) (hop : o.op = Op.call { callee := Callee.builtin Builtin.copy, args := #[d, x], argTypes := #[dT, sT] })
    (v u : Value) (hd : a.eval d = v) (hx : a.eval x = u) {v' : Value} {w' : World} (hr : (Builtin.copy_ #[dT, sT] o.type #[v, u]).run P w = .ok v' w') (hK : K (a.put o.dst v') w') :
    if Region.wanted o (yielded ops a.tmps) = true then Oper.wp P o a w K Q else E := by
  have hw : Region.wanted o (yielded ops a.tmps) = true := by simp [Region.wanted, hg]
  rw [if_pos hw]
  exact wp_copy_run' w d x dT sT hop v u hd hx hr hK
/-- What a copy into a row of the call's own leaves. -/
theorem copy_own {P : Program} {w : World} {dT sT ty e : TypeId} {k g n cap o dLen dCap sLen sCap m B : Nat} {a : Addr} {xs cs : List Value} (ht : P.underlying dT = some (.slice e)) (hs : (P.info? e).map (·.size) = some k) (h : w.ownsRow B e k (.slice (some ⟨g, 0, none⟩) n cap) n xs)
    (hm : Nat.min sLen dLen = m) (hn : cs.length = m * k) (hfit : o + m * k ≤ n * k) (hsrc : ∀ j v, cs[j]? = some v → w.cell? (a.add j) = some v) (h1 : ∀ v ∈ cs, v.oneCell' = true) :
    (Builtin.copy_ #[dT, sT] ty #[.slice (some ⟨g, o, none⟩) dLen dCap, .slice (some a) sLen sCap]).run P w = .ok (goInt m) (setCells w g o cs) ∧ (setCells w g o cs).ownsRow B e k (.slice (some ⟨g, 0, none⟩) n cap) n (setFrom xs o cs) := by
  have hl : xs.length = n * k := h.1
  refine ⟨run_copy_k w dT sT ty e k g o dLen dCap a sLen sCap m cs ht hs hm hn hsrc (fun j hj => ?_) (fun j hj => h.frozenAt _) h1, own_stores cs w o xs h⟩
  have hx : o + j < xs.length := by omega
  have hc := h.cells (g := g) rfl (o + j) _ (List.getElem?_eq_getElem hx)
  rw [addr_add, Nat.zero_add] at hc
  rw [hc]
  rfl
theorem drew_setCells' (b : Nat) : ∀ (vs : List Value) (o : Nat) (w : World), (setCells w b o vs).drew = setCells w.drew b o vs
  | [], _, _ => rfl
  | v :: r, o, w => by rw [setCells, setCells, drew_setCells' b r]; rfl
theorem grown_cells {w : World} {b : Nat} {r : Option Nat} (hb : w.heap.size ≤ b ∨ r = some b) : ∀ (us : List Value) (w' : World) (k : Nat), w.grownBy w' r → w.grownBy (setCells w' b k us) r
  | [], w', k, h => h
  | u :: us, w', k, h => grown_cells hb us _ (k + 1) ⟨h.os, h.tape, h.output, by simpa using h.size, fun j hj hne => by
      rw [Below.heap_setCell w' ⟨b, k, none⟩ u j (fun e => by
        rcases hb with hb | hb
        · dsimp only at e; omega
        · exact hne (by rw [hb]; dsimp only at e; rw [e]))]
      exact h.block j hj hne⟩
/-- A row that grows by zero values behind its head. -/
theorem zeros_row {w : World} {e : TypeId} {k n i B old : Nat} {z : Value} {xs : List Value} (hz : z.cells.size = k) (hl : xs.length = i * k) (hi : i ≤ n) (hold : old < n) (hB : B ≤ w.heap.size) (hn : n ≤ maxLen) :
    (w.drew.alloc (.cells (xs.toArray ++ Builtin.zeroCells z.cells (n - i) ++ Builtin.zeroCells z.cells (grownCap w n old e - n)) e)).ownsRow B e k (.slice (some ⟨w.heap.size, 0, none⟩) n (grownCap w n old e)) n (xs ++ (Builtin.zeroCells z.cells (n - i)).toList) ∧ ((Builtin.zeroCells z.cells (n - i)).toList).length = (n - i) * k := by
  have hzl : ((Builtin.zeroCells z.cells (n - i)).toList).length = (n - i) * k := by rw [Array.length_toList, size_zeroCells, hz]
  have := grown_row w (e := e) (old := old) z hz (xs ++ (Builtin.zeroCells z.cells (n - i)).toList) (n := n) (by rw [List.length_append, hl, hzl, ← Nat.add_mul]; congr 1; omega) hold hn hB
  refine ⟨?_, hzl⟩
  rw [show xs.toArray ++ Builtin.zeroCells z.cells (n - i) = (xs ++ (Builtin.zeroCells z.cells (n - i)).toList).toArray from by simp]
  exact this
/-- A row is taken an element longer, into its spare room. -/
theorem own_longer {w : World} {B : Nat} {e : TypeId} {k g n cap : Nat} {xs : List Value} (h : w.ownsRow B e k (.slice (some ⟨g, 0, none⟩) n cap) n xs) (hc : n + 1 ≤ cap) :
    ∃ J : List Value, J.length = k ∧ w.ownsRow B e k (.slice (some ⟨g, 0, none⟩) (n + 1) cap) (n + 1) (xs ++ J) := by
  obtain ⟨hl, h2⟩ := h
  rcases h2 with ⟨e1, _⟩ | ⟨g', cap', cur, e1, hb, hg, hnc, hcm, hsz, htk⟩
  · simp at e1
  · simp at e1
    obtain ⟨rfl, rfl⟩ := e1
    have hcl : cur.toList.length = cap * k := by rw [Array.length_toList, hsz]
    have hle : (n + 1) * k ≤ cap * k := Nat.mul_le_mul_right _ hc
    have hnk : (n + 1) * k = n * k + k := Nat.succ_mul _ _
    refine ⟨(cur.toList.drop (n * k)).take k, by rw [List.length_take, List.length_drop, hcl]; omega, ?_, Or.inr ⟨g, cap, cur, rfl, hb, hg, hc, hcm, hsz, ?_⟩⟩
    · rw [List.length_append, hl, List.length_take, List.length_drop, hcl, hnk]; omega
    · rw [hnk, List.take_add, htk]
theorem ins_grow {xs Z c : List Value} {k n i : Nat} (hx : xs.length = n * k) (hi : i ≤ n) (hc : c.length = k) (hZ : Z.length = (n + 1 - i) * k) :
    setFrom (setFrom (xs.take (i * k) ++ Z) (i * k) c) ((i + 1) * k) (xs.drop (i * k)) = xs.take (i * k) ++ (c ++ xs.drop (i * k)) := by
  have hik : i * k ≤ n * k := Nat.mul_le_mul_right _ hi
  have h1 : (xs.take (i * k)).length = i * k := by rw [List.length_take]; omega
  have hZ2 : (n + 1 - i) * k = k + (n - i) * k := by rw [show n + 1 - i = (n - i) + 1 from by omega, Nat.succ_mul, Nat.add_comm]
  have hni : (n - i) * k = n * k - i * k := Nat.sub_mul _ _ _
  have e1 : Z = Z.take k ++ Z.drop k := (List.take_append_drop k Z).symm
  have h2 : setFrom (xs.take (i * k) ++ Z) (i * k) c = xs.take (i * k) ++ c ++ Z.drop k := by
    conv => lhs; rw [e1, ← List.append_assoc]
    conv => lhs; arg 2; rw [← h1]
    exact setFrom_mid c (Z.take k) (xs.take (i * k)) (Z.drop k) (by rw [List.length_take]; omega)
  rw [h2]
  have h3 := setFrom_mid (xs.drop (i * k)) (Z.drop k) (xs.take (i * k) ++ c) [] (by rw [List.length_drop, List.length_drop]; omega)
  rw [List.append_nil, List.append_nil, List.length_append, h1, hc] at h3
  rw [Nat.succ_mul, h3, List.append_assoc]
theorem ins_shift {xs J c : List Value} {k n i : Nat} (hx : xs.length = n * k) (hi : i ≤ n) (hc : c.length = k) (hJ : J.length = k) :
    setFrom (setFrom (xs ++ J) ((i + 1) * k) (xs.drop (i * k))) (i * k) c = xs.take (i * k) ++ (c ++ xs.drop (i * k)) := by
  have hik : i * k ≤ n * k := Nat.mul_le_mul_right _ hi
  have hsk : (i + 1) * k = i * k + k := Nat.succ_mul _ _
  have hl : (xs ++ J).length = n * k + k := by rw [List.length_append, hx, hJ]
  have h1 : ((xs ++ J).take ((i + 1) * k)).length = (i + 1) * k := by rw [List.length_take]; omega
  have e1 : xs ++ J = (xs ++ J).take ((i + 1) * k) ++ (xs ++ J).drop ((i + 1) * k) := (List.take_append_drop _ _).symm
  have h2 : setFrom (xs ++ J) ((i + 1) * k) (xs.drop (i * k)) = (xs ++ J).take ((i + 1) * k) ++ xs.drop (i * k) := by
    have := setFrom_mid (xs.drop (i * k)) ((xs ++ J).drop ((i + 1) * k)) ((xs ++ J).take ((i + 1) * k)) [] (by rw [List.length_drop, List.length_drop]; omega)
    rw [List.append_nil, List.append_nil, h1, ← e1] at this
    exact this
  have h3 : (xs ++ J).take ((i + 1) * k) = xs.take (i * k) ++ ((xs ++ J).drop (i * k)).take k := by
    rw [hsk, List.take_add, List.take_append_of_le_length (by omega)]
  rw [h2, h3]
  have h4 := setFrom_mid c (((xs ++ J).drop (i * k)).take k) (xs.take (i * k)) (xs.drop (i * k)) (by rw [List.length_take, List.length_drop]; omega)
  have h5 : (xs.take (i * k)).length = i * k := by rw [List.length_take]; omega
  rw [h5] at h4
  rw [h4, List.append_assoc]
end Go.Gh
