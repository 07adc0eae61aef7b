/-
  A shard: equal rows of int64; both shards side by side.
-/
import Derived.Test.YtcljeedmiobepaaHd11
namespace Go.Proofs.Ytcljeedmiobepaa.Hd
open Go.RowKit Go.Gh Go.Proofs.Ytcljeedmiobepaa.Rk
set_option linter.unusedVariables false
set_option maxRecDepth 100000 in
theorem equal64_any (v u : Value) (l : List Int) (w : World) (hs : Ns w v l) (ht : Ns w u l) :
    Calls Try.prog 46 #[v, u] w fun e w' => e = .returned (.bool true) ∧ ∃ q, w' = w.drewN q := by
  obtain ⟨ao, c, rfl, hnc, hc, _⟩ := hs.shape
  obtain ⟨bo, d, rfl, hod, hd, _⟩ := ht.shape
  obtain ⟨n, hm⟩ : ∃ n, l.length = n := ⟨_, rfl⟩
  have HS := Lib.hid hs
  have HT := Lib.hid ht
  have HM := Lib.hid hm
  rw [hm] at hnc hod HS HT ⊢
  clear hs ht hm
  go_enter Try.func46, Try.ntmps46
  go_wp2_with fail
  go_loopw [5, 13] (fun _ i wr => ∃ k : Nat, k ≤ n ∧ i = .int .i64 k ∧ ∃ q, wr = w.drewN q) (fun _ i _ => n - (intOf i).toNat)
  case atStart => exact ⟨0, by omega, rfl, 0, rfl⟩
  case round =>
    obtain ⟨k, hk, rfl, q, hq⟩ := hrel
    have hbr : Below w.heap.size w wr := by rw [hq]; exact below_drewN (Below.refl _ _) _
    have HQ := Lib.hid hq
    clear hq
    by_cases hlt : k < n
    · obtain ⟨z, hz⟩ : ∃ z, l[k]? = some z := ⟨_, List.getElem?_eq_getElem (by rw [HM.out]; exact hlt)⟩
      obtain ⟨b, off, rfl, hc1⟩ := (HS.out.below hbr).at hz
      obtain ⟨b', off', rfl, hc2⟩ := (HT.out.below hbr).at hz
      have hzz : (z != z) = false := by simp
      clear hz
      go_wp2_with fail
      go_quiet (fail)
      go_wp2
      go_roundw
      case rel => exact ⟨k + 1, by omega, by go_num, q + nq, by rw [HQ.out]; exact drew_add _ _ _⟩
      case measure => simp [intOf]; omega
    · have hkn : k = n := by omega
      subst hkn
      go_wp2_with fail
      go_ret
      exact ⟨rfl, q, HQ.out⟩
/-- Both shards, apart. -/
def Both (B BR hb mb : Nat) (s1 s2 : Hd) (w0 w : World) : Prop := ∃ vh vn vp bh mn vl, PAt B hb s1 vh vn vp w ∧ RAt BR mb bh s2 mn vl w ∧ (∀ g, vl.ownBlock = some g → vh.ownBlock ≠ some g ∧ vn.ownBlock ≠ some g) ∧ Below B w0 w ∧ B ≤ BR
/-- An act's box beside them. -/
def Half (B BR hb mb bx : Nat) (cs : Array Value) (s1 s2 : Hd) (w0 w : World) : Prop := Both B BR hb mb s1 s2 w0 w ∧ w.heap[bx]? = some (.cells cs 66 (0, 0))
section
variable {B BR hb mb bx : Nat} {cs : Array Value} {s1 s2 s' : Hd} {w0 w w' : World}
theorem Both.below (H : Both B BR hb mb s1 s2 w0 w) (h : Below w.heap.size w w') : Both B BR hb mb s1 s2 w0 w' := by
  obtain ⟨vh, vn, vp, bh, mn, vl, h1, h2, h3, h4, h5⟩ := H
  exact ⟨vh, vn, vp, bh, mn, vl, h1.below h, h2.below h, h3, h4.trans (h.mono h1.low.2), h5⟩
theorem Half.below (H : Half B BR hb mb bx cs s1 s2 w0 w) (h : Below w.heap.size w w') : Half B BR hb mb bx cs s1 s2 w0 w' :=
  ⟨H.1.below h, (h.block bx (Array.getElem?_eq_some_iff.1 H.2).1).trans H.2⟩
theorem Half.act {f : FuncId} {args : Array Value} {r : Value} (H : Half B BR hb mb bx cs s1 s2 w0 w)
    (hc : ∀ vh vn vp, PAt B hb s1 vh vn vp w → Calls Try.prog f args w (PPost B hb vh vn r s' w)) : Calls Try.prog f args w fun e w' => e = .returned r ∧ Half B BR hb mb bx cs s' s2 w0 w' := by
  obtain ⟨⟨vh, vn, vp, bh, mn, vl, h1, h2, h3, h4, h5⟩, hbx⟩ := H
  refine (hc vh vn vp h1).mono ?_
  rintro e w' ⟨rfl, vh', vn', vp', p1, p2⟩
  have hlt : bx < w.heap.size := (Array.getElem?_eq_some_iff.1 hbx).1
  refine ⟨rfl, ⟨vh', vn', vp', bh, mn, vl, p1, h2.stays h1 p2 h3, fun g hg => ?_, h4.trans p2.bel, h5⟩, ?_⟩
  · obtain ⟨cs', fr, hc'⟩ := h2.lfb g hg
    have hgl : g < w.heap.size := (Array.getElem?_eq_some_iff.1 hc').1
    refine ⟨fun e => ?_, fun e => ?_⟩
    · rcases p2.lies g (Or.inl e) with q | q | q
      · exact (h3 g hg).1 q
      · exact (h3 g hg).2 q
      · omega
    · rcases p2.lies g (Or.inr e) with q | q | q
      · exact (h3 g hg).1 q
      · exact (h3 g hg).2 q
      · omega
  · refine (p2.keep bx hlt ?_ (own_block_ne h1.has hbx (by decide)) (own_block_ne h1.nxt hbx (by decide))).trans hbx
    rintro rfl
    have := h1.box
    rw [hbx] at this
    simp only [Option.some.injEq, Obj.cells.injEq] at this
    exact absurd this.2.1 (by decide)
theorem Half.ract {f : FuncId} {args : Array Value} {r : Value} (H : Half B BR hb mb bx cs s1 s2 w0 w)
    (hc : ∀ bh mn vl, RAt BR mb bh s2 mn vl w → Calls Try.prog f args w (RPost BR mb vl r s' w)) : Calls Try.prog f args w fun e w' => e = .returned r ∧ Half B BR hb mb bx cs s1 s' w0 w' := by
  obtain ⟨⟨vh, vn, vp, bh, mn, vl, h1, h2, h3, h4, h5⟩, hbx⟩ := H
  refine (hc bh mn vl h2).mono ?_
  rintro e w' ⟨rfl, bh', mn', vl', p1, p2⟩
  refine ⟨rfl, ⟨vh, vn, vp, bh', mn', vl', h1.stays p2.size p2.keep, p1, fun g hg => ?_, h4.trans (p2.bel.mono h5), h5⟩, p2.keep bx cs _ _ hbx (by decide) |>.trans hbx⟩
  have hrow : ∀ {v : Value} {n : Nat} {xs : List Value}, w.ownsRow B 2 1 v n xs → v.ownBlock = some g → g < w.heap.size := fun {v n xs} ho e => by
    obtain ⟨c1, f1, h⟩ := row_at ho e
    exact (Array.getElem?_eq_some_iff.1 h).1
  refine ⟨fun e => ?_, fun e => ?_⟩
  · have := hrow h1.has e
    rcases p2.lies g hg with q | q
    · exact (h3 g q).1 e
    · omega
  · have := hrow h1.nxt e
    rcases p2.lies g hg with q | q
    · exact (h3 g q).2 e
    · omega
theorem Half.ref (H : Half B BR hb mb bx cs s1 s2 w0 w) : ∃ bh mn vl, RAt BR mb bh s2 mn vl w := by
  obtain ⟨⟨vh, vn, vp, bh, mn, vl, h1, h2, h3, h4, h5⟩, hbx⟩ := H
  exact ⟨_, _, _, h2⟩
theorem Half.pro (H : Half B BR hb mb bx cs s1 s2 w0 w) : ∃ vh vn vp, PAt B hb s1 vh vn vp w := by
  obtain ⟨⟨vh, vn, vp, bh, mn, vl, h1, h2, h3, h4, h5⟩, hbx⟩ := H
  exact ⟨_, _, _, h1⟩
theorem Both.ref (H : Both B BR hb mb s1 s2 w0 w) : ∃ bh mn vl, RAt BR mb bh s2 mn vl w := by
  obtain ⟨vh, vn, vp, bh, mn, vl, h1, h2, h3, h4, h5⟩ := H
  exact ⟨_, _, _, h2⟩
theorem Both.pro (H : Both B BR hb mb s1 s2 w0 w) : ∃ vh vn vp, PAt B hb s1 vh vn vp w := by
  obtain ⟨vh, vn, vp, bh, mn, vl, h1, h2, h3, h4, h5⟩ := H
  exact ⟨_, _, _, h1⟩
end
end Go.Proofs.Ytcljeedmiobepaa.Hd
