/-
  Parts of the law GossipSpreads: slices.Clone and slices.EqualFunc at lists of claims' lists; the reference's row.
-/
import Derived.Test.YtcljeedmiobepaaSpr3
import Derived.Test.YtcljeedmiobepaaClm2
import Derived.Test.YtcljeedmiobepaaClMerged
import Derived.Test.YtcljeedmiobepaaSameNd
namespace Go.Proofs.Ytcljeedmiobepaa.Gos
open Go.RowKit Go.Gh Go.Proofs.Ytcljeedmiobepaa.Nod
set_option linter.unusedVariables false
theorem clone_ls (v : Value) (n : Nat) (xs : List Value) (w : World) (hv : Sl w 1 v n xs) (h1 : ∀ u ∈ xs, u.oneCell' = true) (hn : n ≤ 1000000000000) :
    Calls Try.prog 29 #[v] w fun e w' => ∃ v', e = .returned v' ∧ w'.ownsRow w.heap.size 22 1 v' n xs ∧ Below w.heap.size w w' := by
  obtain ⟨ao, c, rfl, hnc, hc, hlen⟩ := hv.shape
  have HN := Lib.hid hn
  clear hn
  cases ao with
  | none =>
    have hn0 : n = 0 := by
      obtain ⟨ao', cap, h1, h2, _, h4, _, h6⟩ := hv
      simp at h1
      have := h4 h1.1.symm
      omega
    subst hn0
    have hl : xs = [] := by simpa using hlen
    subst hl
    have he := Lib.run_eql_slice_nil (P := Try.prog) w 50 22 none 0 c 0 0 Try.underlying50
    go_enter Try.func29, Try.ntmps29
    go_wp2_with fail
    go_ret
    exact ⟨_, rfl, World.ownsRow_nil _ _ _ _, Below.refl _ _⟩
  | some a =>
    have he := Lib.run_eql_slice_nil (P := Try.prog) w 50 22 (some a) n c 0 0 Try.underlying50
    have ho := own_build (e := 22) (size := 1) (n := 0) w [] (Nat.le_refl _) rfl (by decide)
    have hs2 := hv.alloc (Obj.cells ([] : List Value).toArray 22)
    clear hlen
    go_enter Try.func29, Try.ntmps29
    go_wp2_with (at_builtin; refine appendS elLs rfl _ _ rfl ho ((Below.refl _ _).alloc (Nat.le_refl _) _) ?c1 rfl rfl hs2 h1 ?c2 ?c3 ?_)
    case c1 => simp
    case c2 => have := HN.out; omega
    case c3 => have := HN.out; omega
    intro v' w1 hown' hbel' _
    go_wp2
    go_ret
    exact ⟨v', rfl, by simpa using hown', hbel'⟩
/-- A list that reads as claims. -/
def LsR (w : World) (L : List Cl) (c : List Value) : Prop := ∃ v, c = [v] ∧ Sp ClR 4 w v L
theorem lsR_mono : Mono LsR := fun w w' a c ⟨v, h1, h2⟩ hb => ⟨v, h1, h2.below clR_mono hb⟩
set_option maxRecDepth 100000 in
theorem eqls_any (u u' : Value) (S : List (List Cl)) (w : World) (hu : Sp LsR 1 w u S) (hu' : Sp LsR 1 w u' S) :
    Calls Try.prog 30 #[u, u', .func (.func 23) #[] #[]] w fun e w' => e = .returned (.bool true) ∧ Below w.heap.size w w' := by
  obtain ⟨m, hm⟩ : ∃ m, S.length = m := ⟨_, rfl⟩
  obtain ⟨ao, c, rfl, hnc, hc⟩ := hu.shape
  obtain ⟨bo, d, rfl, hod, hd⟩ := hu'.shape
  rw [hm] at hu hu' hnc hod ⊢
  have HM := Lib.hid hm
  have HU := Lib.hid hu
  have HU' := Lib.hid hu'
  have t1 : ((m : Int) != (m : Int)) = false := by simp
  clear hm hu hu'
  go_enter Try.func30, Try.ntmps30
  go_wp2_with fail
  go_loopw [17] (fun i wr => ∃ k : Nat, k ≤ m ∧ i = .int .i64 k ∧ Below w.heap.size w wr) (fun i _ => m - (intOf i).toNat)
  case atStart => exact ⟨0, by omega, rfl, Below.refl _ _⟩
  case round =>
    obtain ⟨k, hk, rfl, hbel⟩ := hrel
    by_cases hlt : k < m
    · obtain ⟨x, hx⟩ : ∃ x, S[k]? = some x := ⟨_, List.getElem?_eq_getElem (by rw [HM.out]; exact hlt)⟩
      obtain ⟨b, off, cs, rfl, ⟨va, rfl, hva⟩, _, hck⟩ := (HU.out.below lsR_mono hbel).get hx
      obtain ⟨b', off', cs', rfl, ⟨vb, rfl, hvb⟩, _, hck'⟩ := (HU'.out.below lsR_mono hbel).get hx
      have c0 := hck 0 _ rfl
      have d0 := hck' 0 _ rfl
      rw [Nat.mul_one, Nat.add_zero] at c0 d0
      have HA := Lib.hid hva
      have HB := Lib.hid hvb
      clear hck hck' hx hva hvb
      go_wp2_with fail
      refine (sameclaims_any _ _ x _ HA.out HB.out).mono ?_
      rintro e w2 ⟨rfl, hb2⟩
      have HB2 := Lib.hid (hbel.trans (hb2.mono hbel.size))
      clear hb2
      go_wp2_with fail
      go_roundw
      case rel => exact ⟨k + 1, by omega, by go_num, HB2.out⟩
      case measure => simp [intOf]; omega
    · obtain rfl : k = m := by omega
      go_wp2_with fail
      go_ret
      exact ⟨rfl, hbel⟩
/-- A list of the reference's row: as it came in, or merged since. -/
def LsW (w0 : World) (w : World) (L : List Cl) (c : List Value) : Prop := ∃ v, c = [v] ∧ (Sp (ClP w0) 4 w0 v L ∨ Ow (ClP w0) 4 27 w0.heap.size w v L) ∧ L.length ≤ 1048576
theorem lsW_mono {w0 : World} : Mono (LsW w0) := fun w w' a c ⟨v, h1, h2, h3⟩ hb => ⟨v, h1, h2.elim Or.inl (fun h => Or.inr (h.below clP_mono hb)), h3⟩
theorem lsW_grow {w0 : World} {k B' : Nat} : Grow (LsW w0) 22 k B' := fun w w' a c u m us ⟨v, h1, h2, h3⟩ ho hg =>
  ⟨v, h1, h2.elim Or.inl (fun ⟨P, p1, p2, p3, p4⟩ => Or.inr ⟨P, p1, p2, p3, own_other p4 ho (by decide) hg⟩), h3⟩
theorem lsW_sp {w0 w : World} {L : List Cl} {v : Value} (h : LsW w0 w L [v]) (hb : Below w0.heap.size w0 w) : Sp (ClP w0) 4 w v L ∧ L.length ≤ 1048576 := by
  obtain ⟨v', h1, h2, h3⟩ := h
  obtain rfl : v = v' := by simpa using h1
  rcases h2 with h | h
  · exact ⟨h.below clP_mono hb, h3⟩
  · exact ⟨h.sp, h3⟩
theorem clP_clR {w0 w : World} {v : Value} {L : List Cl} (h : Sp (ClP w0) 4 w v L) (hb : Below w0.heap.size w0 w) : Sp ClR 4 w v L := Sp.weaken h (fun a c h => clR_mono _ _ _ _ h hb)
theorem wrow_set {w w0 : World} {B g c n f : Nat} {S : List (List Cl)} {m : List Cl} {u : Value} (h : Ow (LsW w0) 1 22 B w (.slice (some ⟨g, 0, none⟩) n c) S) (hS : S.length = n) (hf : f < n) (hm : LsW w0 w m [u]) :
    Ow (LsW w0) 1 22 B (w.setCell ⟨g, f, none⟩ u) (.slice (some ⟨g, 0, none⟩) n c) (S.set f m) ∧ LsW w0 (w.setCell ⟨g, f, none⟩ u) m [u] := by
  obtain ⟨P, h1, h2, h3, h4⟩ := h
  rw [hS] at h4
  have hpl : P.length = n := by rw [← hS, ← h1, List.length_map]
  have h5 := own_over h4 h2 (i := f) (a := m) (c := [u]) (by omega) rfl
  rw [Nat.mul_one] at h5
  have hgr : w.grownBy (w.setCell ⟨g, f, none⟩ u) (some g) := grown_setCell ⟨rfl, rfl, rfl, Nat.le_refl _, fun _ _ _ => rfl⟩ _ _
  refine ⟨⟨P.set f (m, [u]), by rw [map_set, h1], h2.set rfl f, ?_, by rw [List.length_set, hS]; exact h5⟩, lsW_grow _ _ _ _ _ _ _ hm h4 hgr⟩
  exact all_set (Q := fun p => LsW w0 (w.setCell ⟨g, f, none⟩ u) p.1 p.2) (fun p hp => lsW_grow _ _ _ _ _ _ _ (h3 p hp) h4 hgr) (lsW_grow _ _ _ _ _ _ _ hm h4 hgr) f
theorem wrow_at {w w0 : World} {B g c n f : Nat} {S : List (List Cl)} (h : Ow (LsW w0) 1 22 B w (.slice (some ⟨g, 0, none⟩) n c) S) (hS : S.length = n) (hf : f < n) :
    ∃ v, w.cell? ⟨g, f, none⟩ = some v ∧ w.frozen? ⟨g, f, none⟩ = false ∧ LsW w0 w (S.getD f []) [v] := by
  obtain ⟨P, h1, h2, h3, h4⟩ := h
  rw [hS] at h4
  have hx : S[f]? = some (S.getD f []) := by
    rw [List.getD_eq_getElem?_getD, List.getElem?_eq_getElem (by omega)]
    rfl
  obtain ⟨cs, hp⟩ := pair_at h1 hx
  have h5 := h3 _ (List.mem_of_getElem? hp)
  obtain ⟨v, e1, e2⟩ := id h5
  dsimp only at e1 h5
  subst e1
  obtain ⟨hc, hf'⟩ := own_el h4 h2 hp hf
  have c0 := hc 0 _ rfl
  have f0 := hf' 0
  rw [Nat.mul_one, Nat.add_zero] at c0 f0
  exact ⟨v, c0, f0, h5⟩
theorem sp_of {w w' : World} {A : List (List Cl)} {l : List (Int × Int)} {e : Ending} (h : SpPost w A l e w') : Below w.heap.size w w' ∧ ∃ xo xn xc g, e = .returned (.tuple #[.slice xo xn xc, .int .i64 g]) ∧
    ((20 < A.length ∧ xn = 0 ∧ g = 1) ∨ (¬ 20 < A.length ∧ (∀ (i : Nat) (x : Int × Int), l[i]? = some x → edB A.length x = true → xn = 0 ∧ g = 6) ∧
      ((∀ (i : Nat) (x : Int × Int), l[i]? = some x → edB A.length x = false) → ((spGo A l).2 ≠ 0 ∧ xn = 0 ∧ g = (spGo A l).2) ∨ ∃ S, spGo A l = (S, 0) ∧ g = 0 ∧ S.length = A.length ∧ Ow (LsB w.heap.size) 1 22 w.heap.size w' (.slice xo xn xc) S))) := by
  obtain ⟨hb, h⟩ := h
  refine ⟨hb, ?_⟩
  rcases h with ⟨h1, rfl⟩ | ⟨h1, ⟨k, x, h2, h3, _⟩, rfl⟩ | ⟨h1, h2, ⟨h3, rfl⟩ | ⟨v, S, h3, h4, rfl, h5⟩⟩
  · exact ⟨none, 0, 0, 1, rfl, Or.inl ⟨h1, rfl, rfl⟩⟩
  · exact ⟨none, 0, 0, 6, rfl, Or.inr ⟨h1, fun _ _ _ _ => ⟨rfl, rfl⟩, fun h => absurd h3 (by rw [h k x h2]; decide)⟩⟩
  · exact ⟨none, 0, 0, _, rfl, Or.inr ⟨h1, fun i x hx hb => absurd hb (by rw [h2 i x hx]; decide), fun _ => Or.inl ⟨h3, rfl, rfl⟩⟩⟩
  · obtain ⟨xo, xc, rfl, _⟩ := h5.shape
    exact ⟨xo, _, xc, 0, rfl, Or.inr ⟨h1, fun i x hx hb => absurd hb (by rw [h2 i x hx]; decide), fun _ => Or.inr ⟨S, h3, rfl, h4, h5⟩⟩⟩
theorem exists_bound : ∀ (L : List Cl), ∃ f, ∀ x ∈ L, x.nm.size ≤ f
  | [] => ⟨0, fun x hx => by simp at hx⟩
  | x :: L => by
    obtain ⟨f, hf⟩ := exists_bound L
    refine ⟨max f x.nm.size, fun y hy => ?_⟩
    rcases List.mem_cons.1 hy with rfl | hy
    · exact Nat.le_max_right _ _
    · exact Nat.le_trans (hf y hy) (Nat.le_max_left _ _)
/-- A bound on the names, 20 where all is right. -/
theorem exists_bound2 (a b : List Cl) : ∃ f, (∀ x ∈ a, x.nm.size ≤ f) ∧ (∀ x ∈ b, x.nm.size ≤ f) ∧ (claimsF a = 0 → claimsF b = 0 → f = 20) := by
  by_cases h : claimsF a = 0 ∧ claimsF b = 0
  · exact ⟨20, fun x hx => (good_of h.1 x hx).1, fun x hx => (good_of h.2 x hx).1, fun _ _ => rfl⟩
  · obtain ⟨f1, h1⟩ := exists_bound a
    obtain ⟨f2, h2⟩ := exists_bound b
    exact ⟨max f1 f2, fun x hx => Nat.le_trans (h1 x hx) (Nat.le_max_left _ _), fun x hx => Nat.le_trans (h2 x hx) (Nat.le_max_right _ _), fun h3 h4 => absurd ⟨h3, h4⟩ h⟩
noncomputable def badF (a b : List Cl) : Int := if claimsF a = 0 then claimsF b else claimsF a
theorem badF_merge {a b : List Cl} (h : badF a b ≠ 0) : clMerge a b = ([], badF a b) := by
  unfold badF at h ⊢
  unfold clMerge
  by_cases h1 : claimsF a = 0
  · rw [if_pos h1] at h ⊢
    rw [if_pos h1, if_neg h]
  · rw [if_neg h1] at h ⊢
    rw [if_neg h1]
theorem badF_ok {a b : List Cl} (h : badF a b = 0) : claimsF a = 0 ∧ claimsF b = 0 := by
  unfold badF at h
  by_cases h1 : claimsF a = 0
  · rw [if_pos h1] at h
    exact ⟨h1, h⟩
  · rw [if_neg h1] at h
    exact absurd h h1
end Go.Proofs.Ytcljeedmiobepaa.Gos
