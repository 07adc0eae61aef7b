/-
  Ranks: what stands in memory while one rank is merged into another.
-/
import Derived.Test.YtcljeedmiobepaaRk13
import Derived.Test.YtcljeedmiobepaaRkLaw3
namespace Go.Proofs.Ytcljeedmiobepaa.Rk
open Go.RowKit Go.Gh
set_option linter.unusedVariables false
theorem own_same {w w' : World} {B n size : Nat} {T : TypeId} {v : Value} {xs : List Value} (h : w.ownsRow B T size v n xs) (hs : ∀ g, v.ownBlock = some g → w'.heap[g]? = w.heap[g]?) : w'.ownsRow B T size v n xs := by
  refine ⟨h.1, ?_⟩
  rcases h.2 with hn | ⟨g, cap, cur, rfl, hb', hgg, rest⟩
  · exact .inl hn
  · exact .inr ⟨g, cap, cur, rfl, hb', (hs g rfl).trans hgg, rest⟩
/-- Behind the copies: a rank of one's own in its box, the other's levels and tail beside it. -/
structure JAt (W : World) (B b9 : Nat) (s : Rk) (t u : Value) (lv : List (List Int)) (ub : Value) (tl : List Int) (tb : Value) (wx : World) : Prop where
  box : wx.heap[b9]? = some (.cells #[.int .i64 s.k, t, u, .int .i64 s.n, .int .i64 s.sl] 141 (0, 0))
  own : OwnRk B wx s t u
  lvs : Lvs t.ownBlock B wx ub lv
  tls : wx.ownsRow B 2 1 tb tl.length (tl.map (Value.int .i64))
  ul : ub.ownBlock = none ∨ ub.ownBlock ≠ u.ownBlock
  tt : tb.ownBlock = none ∨ tb.ownBlock ≠ t.ownBlock
  low : B ≤ b9 ∧ B ≤ wx.heap.size
  bel : Below B W wx
section
variable {W : World} {B b9 : Nat} {s : Rk} {t u : Value} {lv : List (List Int)} {ub : Value} {tl : List Int} {tb : Value} {wx wy : World}
theorem JAt.below (h : JAt W B b9 s t u lv ub tl tb wx) (hb : Below wx.heap.size wx wy) : JAt W B b9 s t u lv ub tl tb wy :=
  ⟨(hb.block _ (Array.getElem?_eq_some_iff.1 h.box).1).trans h.box, h.own.below hb, h.lvs.below hb, own_below h.tls hb, h.ul, h.tt, ⟨h.low.1, Nat.le_trans h.low.2 hb.size⟩, h.bel.trans (hb.mono h.low.2)⟩
/-- A level of the other one. -/
theorem JAt.level (h : JAt W B b9 s t u lv ub tl tb wx) {i : Nat} {a : List Int} (ha : lv[i]? = some a) :
    ∃ g cap ta, ub = .slice (some ⟨g, 0, none⟩) lv.length cap ∧ wx.cell? ⟨g, i, none⟩ = some ta ∧ wx.ownsRow B 2 1 ta a.length (a.map (Value.int .i64)) ∧ (ta.ownBlock = none ∨ ta.ownBlock ≠ t.ownBlock) := by
  obtain ⟨P, h1, h2, h3, h4⟩ := h.lvs
  have hi : i < lv.length := (List.getElem?_eq_some_iff.1 ha).1
  obtain ⟨g, cap, rfl, -, -, -, -, -⟩ := own_some h4 (by omega)
  obtain ⟨cs, hp⟩ := pair_at h1 ha
  obtain ⟨ta, e1, e2, e3⟩ := h3 _ (List.mem_of_getElem? hp)
  obtain ⟨hc, hf⟩ := own_el h4 h2 hp hi
  have c0 := hc 0 ta (by rw [e1]; rfl)
  rw [Nat.mul_one, Nat.add_zero] at c0
  exact ⟨g, cap, ta, rfl, c0, e2, e3⟩
theorem JAt.cat (h : JAt W B b9 s t u lv ub tl tb wx) {i : Nat} {l : List Int} {lval : Value} (hl : wx.ownsRow B 2 1 lval l.length (l.map (Value.int .i64))) (hap : lval.ownBlock = none ∨ lval.ownBlock ≠ t.ownBlock) (hlen : ∀ a ∈ s.lv, a.length ≤ 64) (h64 : l.length ≤ 64) (hsl : 0 ≤ s.sl) :
    CAt wx B b9 s.k s.n s.tl t u (carryG s.lv s.sl l i) s.lv.length s.sl s.lv s.sl l i lval u wx :=
  ⟨h.box, h.own, hl, hap, rfl, Fp.refl _ _ _, Below.refl _ _, h.low, ⟨hlen, h64⟩, rfl, ⟨hsl, Int.le_add_of_nonneg_right (Int.le_of_lt (Int.pow_pos (by decide)))⟩⟩
/-- A list is carried. -/
theorem JAt.carried {s' : Rk} {u' : Value} (h : JAt W B b9 s t u lv ub tl tb wx) (hbox : wy.heap[b9]? = some (.cells #[.int .i64 s'.k, t, u', .int .i64 s'.n, .int .i64 s'.sl] 141 (0, 0))) (ho : OwnRk B wy s' t u') (hf : Fp wx wy b9 u u') (hb : Below B wx wy) : JAt W B b9 s' t u' lv ub tl tb wy := by
  obtain ⟨P, e1, e2, e3, e4⟩ := h.lvs
  obtain ⟨Q, q1, q2, q3, q4⟩ := h.own.2
  have hrow : ∀ {n B' : Nat} {v : Value} {xs : List Value}, wx.ownsRow B' 2 1 v n xs → wy.ownsRow B' 2 1 v n xs := fun {n B' v xs} hx =>
    own_same hx (fun g hg => hf.keep g (hx.lt g hg).2 (fun e => own_block_ne hx h.box (by decide) (by rw [hg, e])) (fun e => by
      rcases own_ne q4 hx (by decide) with h5 | h5
      · rw [h5] at hg; simp at hg
      · exact h5 (by rw [hg, e])))
  refine ⟨hbox, ho, ⟨P, e1, e2, fun p hp => ?_, ?_⟩, hrow h.tls, ?_, h.tt, ⟨h.low.1, Nat.le_trans h.low.2 hf.size⟩, h.bel.trans hb⟩
  · obtain ⟨t1, i1, i2, i3⟩ := e3 p hp
    exact ⟨t1, i1, hrow i2, i3⟩
  · exact own_same e4 (fun g hg => hf.keep g (e4.lt g hg).2 (fun e => own_block_ne e4 h.box (by decide) (by rw [hg, e])) (fun e => by
      rcases h.ul with h5 | h5
      · rw [h5] at hg; simp at hg
      · exact h5 (by rw [hg, e])))
  · cases hv : ub.ownBlock with
    | none => exact Or.inl rfl
    | some g =>
      refine Or.inr fun e => ?_
      rcases hf.lies g e.symm with h5 | h5
      · rcases h.ul with h6 | h6
        · rw [h6] at hv; simp at hv
        · exact h6 (by rw [hv, h5])
      · have := (e4.lt g hv).2
        omega
/-- A number in the box is written. -/
theorem JAt.num (h : JAt W B b9 s t u lv ub tl tb wx) (z : Int) : JAt W B b9 ⟨s.k, s.tl, s.lv, z, s.sl⟩ t u lv ub tl tb (wx.setCell ⟨b9, 3, none⟩ (.int .i64 z)) :=
  ⟨by simpa using row_setCell 3 (.int .i64 z) h.box, h.own.boxed h.box (by decide) (by decide), h.lvs.box h.box (by decide) (by decide), ownsRow_setCell_other h.tls (a := ⟨b9, 3, none⟩) (own_block_ne h.tls h.box (by decide)) _, h.ul, h.tt, ⟨h.low.1, by simpa using h.low.2⟩, h.bel.setCell (p := ⟨b9, 3, none⟩) h.low.1 _⟩
theorem JAt.slk (h : JAt W B b9 s t u lv ub tl tb wx) (z : Int) : JAt W B b9 ⟨s.k, s.tl, s.lv, s.n, z⟩ t u lv ub tl tb (wx.setCell ⟨b9, 4, none⟩ (.int .i64 z)) :=
  ⟨by simpa using row_setCell 4 (.int .i64 z) h.box, h.own.boxed h.box (by decide) (by decide), h.lvs.box h.box (by decide) (by decide), ownsRow_setCell_other h.tls (a := ⟨b9, 4, none⟩) (own_block_ne h.tls h.box (by decide)) _, h.ul, h.tt, ⟨h.low.1, by simpa using h.low.2⟩, h.bel.setCell (p := ⟨b9, 4, none⟩) h.low.1 _⟩
end
/-- Behind the levels: only the other's tail is left. -/
structure TlAt (W : World) (B b9 : Nat) (s : Rk) (t u : Value) (tl : List Int) (tb : Value) (wx : World) : Prop where
  box : wx.heap[b9]? = some (.cells #[.int .i64 s.k, t, u, .int .i64 s.n, .int .i64 s.sl] 141 (0, 0))
  own : OwnRk B wx s t u
  tls : wx.ownsRow B 2 1 tb tl.length (tl.map (Value.int .i64))
  tt : tb.ownBlock = none ∨ tb.ownBlock ≠ t.ownBlock
  low : B ≤ b9 ∧ B ≤ wx.heap.size
  bel : Below B W wx
section
variable {W : World} {B b9 : Nat} {s : Rk} {t u : Value} {lv : List (List Int)} {ub : Value} {tl : List Int} {tb : Value} {wx wy : World}
theorem JAt.tail (h : JAt W B b9 s t u lv ub tl tb wx) : TlAt W B b9 s t u tl tb wx := ⟨h.box, h.own, h.tls, h.tt, h.low, h.bel⟩
theorem TlAt.added {s' : Rk} {t' u' : Value} (h : TlAt W B b9 s t u tl tb wx) (hbox : wy.heap[b9]? = some (.cells #[.int .i64 s'.k, t', u', .int .i64 s'.n, .int .i64 s'.sl] 141 (0, 0))) (ho : OwnRk B wy s' t' u') (hf : Fp2 wx wy b9 t u t' u') (hb : Below B wx wy) : TlAt W B b9 s' t' u' tl tb wy := by
  obtain ⟨Q, q1, q2, q3, q4⟩ := h.own.2
  refine ⟨hbox, ho, own_same h.tls (fun g hg => hf.keep g (h.tls.lt g hg).2 (fun e => own_block_ne h.tls h.box (by decide) (by rw [hg, e])) (fun e => ?_) (fun e => ?_)), ?_, ⟨h.low.1, Nat.le_trans h.low.2 hf.size⟩, h.bel.trans hb⟩
  · rcases h.tt with h5 | h5
    · rw [h5] at hg; simp at hg
    · exact h5 (by rw [hg, e])
  · rcases own_ne q4 h.tls (by decide) with h5 | h5
    · rw [h5] at hg; simp at hg
    · exact h5 (by rw [hg, e])
  · cases hv : tb.ownBlock with
    | none => exact Or.inl rfl
    | some g =>
      refine Or.inr fun e => ?_
      rcases hf.liesT g e.symm with h5 | h5
      · rcases h.tt with h6 | h6
        · rw [h6] at hv; simp at hv
        · exact h6 (by rw [hv, h5])
      · have := (h.tls.lt g hv).2
        omega
theorem TlAt.cell (h : TlAt W B b9 s t u tl tb wx) {j : Nat} {v : Int} (hv : tl[j]? = some v) : ∃ g cap, tb = .slice (some ⟨g, 0, none⟩) tl.length cap ∧ wx.cell? ⟨g, j, none⟩ = some (.int .i64 v) := by
  have hj : j < tl.length := (List.getElem?_eq_some_iff.1 hv).1
  obtain ⟨g, cap, rfl, -, -, -, -, hc⟩ := own_some h.tls (by omega)
  have := (own_sl h.tls)
  obtain ⟨ao, cap', e1, -, -, -, -, e6⟩ := this
  obtain ⟨b, off, e, hcc⟩ := e6 (by omega)
  simp only [Value.slice.injEq] at e1
  obtain ⟨rfl, -, -⟩ := e1
  simp only [Option.some.injEq, Addr.mk.injEq, and_true] at e
  obtain ⟨rfl, rfl⟩ := e
  have := hcc j (.int .i64 v) (by rw [List.getElem?_map, hv]; rfl)
  rw [Nat.zero_add] at this
  exact ⟨_, _, rfl, this⟩
end
end Go.Proofs.Ytcljeedmiobepaa.Rk
