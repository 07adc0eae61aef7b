/-
  Tallies of what is heavy: the walk of Merge, as far as its loop over the second one.
-/
import Derived.Test.YtcljeedmiobepaaHv7
import Derived.Test.YtcljeedmiobepaaHmLaw
import Derived.Test.YtcljeedmiobepaaSort64
import Derived.Deep.RegionLaw
import Derived.Deep.RegionHeld3
import Derived.BigRegion
namespace Go.Proofs.Ytcljeedmiobepaa.Hv
open Go.RowKit Go.Gh
set_option linter.unusedVariables false
open Classical in
noncomputable def mergeR (a b : Hv) : Hv × Int := if heavyF a = 0 then if heavyF b = 0 then if a.k = b.k then if 1000000000 < a.n + b.n then (hv0, 2) else (mergedF a b, 0) else (hv0, 1) else (hv0, heavyF b) else (hv0, heavyF a)
section
variable {a b : Hv} {e : Int}
theorem mr_bad1 (h : heavyF a = e) (hz : e ≠ 0) : mergeR a b = (hv0, e) := by
  unfold mergeR
  rw [h, if_neg hz]
theorem mr_bad2 (h1 : heavyF a = 0) (h : heavyF b = e) (hz : e ≠ 0) : mergeR a b = (hv0, e) := by
  unfold mergeR
  rw [h1, if_pos rfl, h, if_neg hz]
theorem mr_k (h1 : heavyF a = 0) (h : heavyF b = 0) (hz : ¬ a.k = b.k) : mergeR a b = (hv0, 1) := by
  unfold mergeR
  rw [h1, if_pos rfl, h, if_pos rfl, if_neg hz]
theorem mr_large (h1 : heavyF a = 0) (h : heavyF b = 0) (hz : a.k = b.k) (hl : 1000000000 < a.n + b.n) : mergeR a b = (hv0, 2) := by
  unfold mergeR
  rw [h1, if_pos rfl, h, if_pos rfl, if_pos hz, if_pos hl]
theorem mr_ok (h1 : heavyF a = 0) (h : heavyF b = 0) (hz : a.k = b.k) (hl : ¬ 1000000000 < a.n + b.n) : mergeR a b = (mergedF a b, 0) := by
  unfold mergeR
  rw [h1, if_pos rfl, h, if_pos rfl, if_pos hz, if_neg hl]
end
theorem hm_zero {w w' : World} {r : Hv × Int} {e : Int} (h : r = (hv0, e)) (hb : Below w.heap.size w w') : HvPost w r (.returned (.tuple #[.agg #[.int .i64 0, .slice none 0 0, .int .i64 0, .int .i64 0], .int .i64 e])) w' := by
  subst h
  exact ⟨_, rfl, hvV_zero _, hb⟩
theorem own_rows_ne {w : World} {B B' n n' size size' : Nat} {e e' : TypeId} {v u : Value} {xs ys : List Value} (h1 : w.ownsRow B e size v n xs) (h2 : w.ownsRow B' e' size' u n' ys) (hne : e ≠ e') : u.ownBlock = none ∨ u.ownBlock ≠ v.ownBlock := by
  rcases h2.2 with ⟨rfl, _⟩ | ⟨g, cap, cur, rfl, _, hg, _⟩
  · exact Or.inl rfl
  · exact Or.inr fun h => own_block_ne h1 hg hne h.symm
/-- What stands in memory while the second one is counted in: a box, and its own row. -/
structure MgAt (wB : World) (b9 : Nat) (K N F : Int) (L : List Ct) (ao : Option Addr) (p c : Nat) (wx : World) : Prop where
  box : wx.heap[b9]? = some (.cells #[.int .i64 K, .slice ao p c, .int .i64 N, .int .i64 F] 86 (0, 0))
  own : ∃ P : List (Ct × List Value), P.map (·.1) = L ∧ PK 2 P ∧ (∀ q ∈ P, CtR wx q.1 q.2) ∧ wx.ownsRow wB.heap.size 175 2 (.slice ao p c) p (pc P)
  ne : (Value.slice ao p c).ownBlock ≠ some b9
  low : wB.heap.size ≤ b9
  bel : Below wB.heap.size wB wx
  len : L.length = p
theorem bx4_al {w : World} {B : Nat} {T : TypeId} {a b c d : Value} (h : w.heap[B]? = some (.cells #[a, b, c, d] T (0, 0))) :
    (∀ o, (w.alloc o).cell? ⟨B, 0, none⟩ = some a) ∧ (∀ o, (w.alloc o).cell? ⟨B, 1, none⟩ = some b) ∧ (∀ o, (w.alloc o).cell? ⟨B, 2, none⟩ = some c) ∧ (∀ o, (w.alloc o).cell? ⟨B, 3, none⟩ = some d) := by
  have hl : B < w.heap.size := (Array.getElem?_eq_some_iff.1 h).1
  have h' := fun o => bx4 ((Below.heap_alloc w o B hl).trans h)
  exact ⟨fun o => (h' o).1.1, fun o => (h' o).1.2.1, fun o => (h' o).1.2.2.1, fun o => (h' o).1.2.2.2⟩
section
variable {wB : World} {b9 : Nat} {K N F : Int} {L : List Ct} {ao : Option Addr} {p c : Nat} {wx wy : World}
theorem MgAt.sp (h : MgAt wB b9 K N F L ao p c wx) : Sp CtR 2 wx (.slice ao p c) L := by
  obtain ⟨P, h1, h2, h3, h4⟩ := h.own
  exact ⟨P, h1, h2, h3, by rw [h.len]; exact own_sl h4⟩
theorem MgAt.hv (h : MgAt wB b9 K N F L ao p c wx) : HvV wx (.agg #[.int .i64 K, .slice ao p c, .int .i64 N, .int .i64 F]) ⟨K, L, N, F⟩ := ⟨_, rfl, h.sp⟩
theorem MgAt.lt (h : MgAt wB b9 K N F L ao p c wx) : b9 < wx.heap.size := (Array.getElem?_eq_some_iff.1 h.box).1
theorem MgAt.below (h : MgAt wB b9 K N F L ao p c wx) (hb : Below wx.heap.size wx wy) : MgAt wB b9 K N F L ao p c wy := by
  obtain ⟨P, h1, h2, h3, h4⟩ := h.own
  exact ⟨(hb.block _ h.lt).trans h.box, ⟨P, h1, h2, h3, own_below h4 hb⟩, h.ne, h.low, h.bel.trans (hb.mono h.bel.size), h.len⟩
/-- One is counted more often. -/
theorem MgAt.hit {g i : Nat} {x : Ct} {z : Int} (h : MgAt wB b9 K N F L (some ⟨g, 0, none⟩) p c wx) (hx : L[i]? = some x) : MgAt wB b9 K N F (L.set i ⟨x.ky, z⟩) (some ⟨g, 0, none⟩) p c (wx.setCell ⟨g, i * 2 + 1, none⟩ (.int .i64 z)) ∧
    wx.cell? ⟨g, i * 2 + 1, none⟩ = some (.int .i64 x.n) ∧ wx.frozen? ⟨g, i * 2 + 1, none⟩ = false := by
  obtain ⟨P, h1, h2, h3, h4⟩ := h.own
  have hi : i < p := by rw [← h.len]; exact (List.getElem?_eq_some_iff.1 hx).1
  obtain ⟨cs, hp⟩ := pair_at h1 hx
  obtain rfl : cs = [.string x.ky, .int .i64 x.n] := h3 _ (List.mem_of_getElem? hp)
  have hgb : g ≠ b9 := fun e => h.ne (by rw [e]; rfl)
  have hg := (h4.lt g rfl).1
  obtain ⟨hcell, hfz⟩ := own_el h4 h2 hp hi
  have hst := (h4.stored (i * 2 + 1) (.int .i64 z)).1
  rw [pc_setG (a' := ⟨x.ky, z⟩) h2 hp (by decide)] at hst
  refine ⟨⟨row_setCell_other _ h.box hgb.symm, ⟨P.set i (⟨x.ky, z⟩, [.string x.ky, .int .i64 z]), by rw [map_set, h1], h2.set rfl i, ?_, hst⟩, h.ne, h.low, h.bel.setCell (p := ⟨g, i * 2 + 1, none⟩) hg _, by rw [List.length_set]; exact h.len⟩, hcell 1 _ rfl, hfz 1⟩
  exact all_set (Q := fun q => CtR wx q.1 q.2) (fun q hq => h3 q hq) (a := ⟨x.ky, z⟩) (c := [.string x.ky, .int .i64 z]) rfl i
/-- Another row is put into the box. -/
theorem MgAt.put {L' : List Ct} {a1 : Option Addr} {p1 c1 : Nat} (hb : wy.heap[b9]? = some (.cells #[.int .i64 K, .slice ao p c, .int .i64 N, .int .i64 F] 86 (0, 0))) (how : ∃ P : List (Ct × List Value), P.map (·.1) = L' ∧ PK 2 P ∧ (∀ q ∈ P, CtR wy q.1 q.2) ∧ wy.ownsRow wB.heap.size 175 2 (.slice a1 p1 c1) p1 (pc P))
    (hne : (Value.slice a1 p1 c1).ownBlock ≠ some b9) (hlow : wB.heap.size ≤ b9) (hbel : Below wB.heap.size wB wy) (hl : L'.length = p1) : MgAt wB b9 K N F L' a1 p1 c1 (wy.setCell ⟨b9, 1, none⟩ (.slice a1 p1 c1)) := by
  obtain ⟨P, h1, h2, h3, h4⟩ := how
  have := row_setCell 1 (.slice a1 p1 c1) hb
  exact ⟨by simpa using this, ⟨P, h1, h2, h3, ownsRow_setCell_other h4 (a := ⟨b9, 1, none⟩) hne _⟩, hne, hlow, hbel.setCell (p := ⟨b9, 1, none⟩) hlow _, hl⟩
theorem MgAt.grown {r : Option Nat} (h : MgAt wB b9 K N F L ao p c wx) (hg : wx.grownBy wy r) (hr : r ≠ some b9) (hr2 : (Value.slice ao p c).ownBlock = none ∨ (Value.slice ao p c).ownBlock ≠ r) (hbel : Below wB.heap.size wB wy) : MgAt wB b9 K N F L ao p c wy := by
  obtain ⟨P, h1, h2, h3, h4⟩ := h.own
  exact ⟨grown_block2 hg hr h.box, ⟨P, h1, h2, h3, h4.kept hg hr2⟩, h.ne, h.low, hbel, h.len⟩
theorem MgAt.fin {b4 : Nat} (h : MgAt wB b9 K N F L ao p c wx) (hb : b4 < wB.heap.size) (us : List Value) : HvV (setCells wx b4 0 us) (.agg #[.int .i64 K, .slice ao p c, .int .i64 N, .int .i64 F]) ⟨K, L, N, F⟩ := by
  obtain ⟨P, h1, h2, h3, h4⟩ := h.own
  have hne : (Value.slice ao p c).ownBlock ≠ some b4 := fun e => by have := (h4.lt _ e).1; omega
  exact ⟨_, rfl, P, h1, h2, h3, by dsimp only; rw [h.len]; exact own_sl (own_stores_other hne us _ 0 h4)⟩
theorem MgAt.off (h : MgAt wB b9 K N F L ao p c wx) (F' : Int) : MgAt wB b9 K N F' L ao p c (wx.setCell ⟨b9, 3, none⟩ (.int .i64 F')) := by
  obtain ⟨P, h1, h2, h3, h4⟩ := h.own
  have := row_setCell 3 (.int .i64 F') h.box
  exact ⟨by simpa using this, ⟨P, h1, h2, h3, ownsRow_setCell_other h4 (a := ⟨b9, 3, none⟩) h.ne _⟩, h.ne, h.low, h.bel.setCell (p := ⟨b9, 3, none⟩) h.low _, h.len⟩
end

set_option maxHeartbeats 8000000 in
set_option maxRecDepth 100000 in
theorem merge_any (v v' : Value) (a b : Hv) (w : World) (hva : HvV w v a) (hvb : HvV w v' b) : Calls Try.prog 57 #[v, v'] w (HvPost w (mergeR a b)) := by
  have HVA := Lib.hid hva
  have HVB := Lib.hid hvb
  obtain ⟨ta, rfl, hs⟩ := hva
  obtain ⟨tb, rfl, ht⟩ := hvb
  obtain ⟨ao, ca, rfl, hnc, hca⟩ := hs.shape
  obtain ⟨bo, cb, rfl, hmc, hcb⟩ := ht.shape
  obtain ⟨n, hn⟩ : ∃ n, a.l.length = n := ⟨_, rfl⟩
  obtain ⟨m, hm⟩ : ∃ n, b.l.length = n := ⟨_, rfl⟩
  rw [hn] at hs hnc HVA ⊢
  rw [hm] at ht hmc HVB ⊢
  have HNN := Lib.hid hn
  have HMM := Lib.hid hm
  have HS := Lib.hid hs
  have HT := Lib.hid ht
  obtain ⟨e1, he1⟩ : ∃ e, heavyF a = e := ⟨_, rfl⟩
  obtain ⟨e2, he2⟩ : ∃ e, heavyF b = e := ⟨_, rfl⟩
  have HE1 := Lib.hid he1
  have HE2 := Lib.hid he2
  clear hn hm hs ht he1 he2
  go_enter Try.func57, Try.ntmps57
  go_wp2_with fail
  obtain ⟨wA, hwA⟩ : ∃ wA, wA = (((w.alloc (Obj.cells #[.int .i64 a.k, .slice ao n ca, .int .i64 a.n, .int .i64 a.off] 86)).alloc (Obj.cells #[.int .i64 b.k, .slice bo m cb, .int .i64 b.n, .int .i64 b.off] 86)).alloc (Obj.cells #[.int .i64 0, .slice none 0 0, .int .i64 0, .int .i64 0] 86)).alloc (Obj.cells #[.int .i64 a.k, .slice ao n ca, .int .i64 a.n, .int .i64 a.off, .int .i64 b.k, .slice bo m cb, .int .i64 b.n, .int .i64 b.off] 86) := ⟨_, rfl⟩
  have hAs : wA.heap.size = w.heap.size + 1 + 1 + 1 + 1 := by rw [hwA]; simp
  have hAb : Below w.heap.size w wA := by rw [hwA]; exact ((((Below.refl _ w).alloc (Nat.le_refl _) _).alloc (by simp) _).alloc (by simp; omega) _).alloc (by simp; omega) _
  have hA0 : wA.heap[w.heap.size]? = some (.cells #[.int .i64 a.k, .slice ao n ca, .int .i64 a.n, .int .i64 a.off] 86 (0, 0)) := by
    rw [hwA, Below.heap_alloc _ _ _ (by first | (simp; done) | (simp; omega)), Below.heap_alloc _ _ _ (by first | (simp; done) | (simp; omega))]
    exact two_first w _ _
  have hA1 : wA.heap[w.heap.size + 1]? = some (.cells #[.int .i64 b.k, .slice bo m cb, .int .i64 b.n, .int .i64 b.off] 86 (0, 0)) := by
    rw [hwA, Below.heap_alloc _ _ _ (by first | (simp; done) | (simp; omega)), Below.heap_alloc _ _ _ (by first | (simp; done) | (simp; omega))]
    exact two_second w _ _
  have hA2 : wA.heap[w.heap.size + 1 + 1]? = some (.cells #[.int .i64 0, .slice none 0 0, .int .i64 0, .int .i64 0] 86 (0, 0)) := by
    rw [hwA]
    have := two_first ((w.alloc (Obj.cells #[.int .i64 a.k, .slice ao n ca, .int .i64 a.n, .int .i64 a.off] 86)).alloc (Obj.cells #[.int .i64 b.k, .slice bo m cb, .int .i64 b.n, .int .i64 b.off] 86)) (Obj.cells #[.int .i64 0, .slice none 0 0, .int .i64 0, .int .i64 0] 86) (Obj.cells #[.int .i64 a.k, .slice ao n ca, .int .i64 a.n, .int .i64 a.off, .int .i64 b.k, .slice bo m cb, .int .i64 b.n, .int .i64 b.off] 86)
    rwa [World.size_alloc, World.size_alloc] at this
  have hA3 : wA.heap[w.heap.size + 1 + 1 + 1]? = some (.cells #[.int .i64 a.k, .slice ao n ca, .int .i64 a.n, .int .i64 a.off, .int .i64 b.k, .slice bo m cb, .int .i64 b.n, .int .i64 b.off] 86 (0, 0)) := by
    rw [hwA]
    have := two_second ((w.alloc (Obj.cells #[.int .i64 a.k, .slice ao n ca, .int .i64 a.n, .int .i64 a.off] 86)).alloc (Obj.cells #[.int .i64 b.k, .slice bo m cb, .int .i64 b.n, .int .i64 b.off] 86)) (Obj.cells #[.int .i64 0, .slice none 0 0, .int .i64 0, .int .i64 0] 86) (Obj.cells #[.int .i64 a.k, .slice ao n ca, .int .i64 a.n, .int .i64 a.off, .int .i64 b.k, .slice bo m cb, .int .i64 b.n, .int .i64 b.off] 86)
    rwa [World.size_alloc, World.size_alloc] at this
  rw [← hwA]
  have HAS := Lib.hid hAs
  have hlt0 : w.heap.size < wA.heap.size := by omega
  have hlt1 : w.heap.size + 1 < wA.heap.size := by omega
  have hlt2 : w.heap.size + 1 + 1 < wA.heap.size := by omega
  have hlt3 : w.heap.size + 1 + 1 + 1 < wA.heap.size := by omega
  clear hwA hAs
  go_loopw [7, 8, 22] (fun _ _ i wr => ∃ k : Int, (k = 0 ∨ k = 1 ∨ k = 2) ∧ i = .int .i64 k ∧ Below wA.heap.size wA wr ∧ Hid ((1 ≤ k → e1 = 0) ∧ (2 ≤ k → e2 = 0))) (fun _ _ i _ => (3 - intOf i).toNat)
  case atStart => exact ⟨0, Or.inl rfl, rfl, Below.refl _ _, by constructor <;> intro h <;> omega⟩
  case round =>
    obtain ⟨k, hk, rfl, hbr, hdone⟩ := hrel
    have hBw : Below w.heap.size w wr := hAb.trans (hbr.mono (by omega))
    have q0 := (hbr.block _ hlt0).trans hA0
    have q1 := (hbr.block _ hlt1).trans hA1
    have q2 := (hbr.block _ hlt2).trans hA2
    have q3 := (hbr.block _ hlt3).trans hA3
    have l0 : wr.cell? ⟨w.heap.size + 1 + 1 + 1, 0, none⟩ = some (.int .i64 a.k) := (row_cell 0 _ q3 rfl).1
    have l1 : wr.cell? ⟨w.heap.size + 1 + 1 + 1, 1, none⟩ = some (.slice ao n ca) := (row_cell 1 _ q3 rfl).1
    have l2 : wr.cell? ⟨w.heap.size + 1 + 1 + 1, 2, none⟩ = some (.int .i64 a.n) := (row_cell 2 _ q3 rfl).1
    have l3 : wr.cell? ⟨w.heap.size + 1 + 1 + 1, 3, none⟩ = some (.int .i64 a.off) := (row_cell 3 _ q3 rfl).1
    have l4 : wr.cell? ⟨w.heap.size + 1 + 1 + 1, 4, none⟩ = some (.int .i64 b.k) := (row_cell 4 _ q3 rfl).1
    have l5 : wr.cell? ⟨w.heap.size + 1 + 1 + 1, 5, none⟩ = some (.slice bo m cb) := (row_cell 5 _ q3 rfl).1
    have l6 : wr.cell? ⟨w.heap.size + 1 + 1 + 1, 6, none⟩ = some (.int .i64 b.n) := (row_cell 6 _ q3 rfl).1
    have l7 : wr.cell? ⟨w.heap.size + 1 + 1 + 1, 7, none⟩ = some (.int .i64 b.off) := (row_cell 7 _ q3 rfl).1
    rcases hk with rfl | rfl | rfl
    · have hbA := hBw.alloc hBw.size (Obj.cells #[.int .i64 a.k, .slice ao n ca, .int .i64 a.n, .int .i64 a.off] 86)
      have hbr2 := hbr.alloc (hbr.size) (Obj.cells #[.int .i64 a.k, .slice ao n ca, .int .i64 a.n, .int .i64 a.off] 86)
      by_cases hz : e1 = 0
      · have HN : Hid ((1 ≤ (1 : Int) → e1 = 0) ∧ (2 ≤ (1 : Int) → e2 = 0)) := ⟨fun _ => hz, fun h => by omega⟩
        have t1 : (e1 != 0) = false := by rw [hz]; rfl
        clear hz
        go_wp2_with fail
        refine (hvcheck_any _ a _ (HVA.out.below hbA)).mono ?_
        rw [HE1.out]
        rintro e w1 ⟨rfl, hb1⟩
        go_wp2_with fail
        go_roundw
        case rel => exact ⟨1, Or.inr (Or.inl rfl), rfl, hbr2.trans (hb1.mono hbr2.size), HN⟩
        case measure => simp [intOf]
      · have HF : Hid (mergeR a b = (hv0, e1)) := Lib.hid (mr_bad1 HE1.out hz)
        have t1 : (e1 != 0) = true := by rw [bne_iff_ne]; exact hz
        clear hz
        go_wp2_with fail
        refine (hvcheck_any _ a _ (HVA.out.below hbA)).mono ?_
        rw [HE1.out]
        rintro e w1 ⟨rfl, hb1⟩
        have hb2 := hbr2.trans (hb1.mono hbr2.size)
        have hB2 := hbA.trans (hb1.mono hbA.size)
        have z2 := (hb2.block _ hlt2).trans hA2
        obtain ⟨⟨r0, r1, r2, r3⟩, ⟨f0, f1, f2, f3⟩⟩ := bx4 z2
        have z3 := bx4_store (.int .i64 0) (.slice none 0 0) (.int .i64 0) (.int .i64 0) z2
        obtain ⟨⟨s0, s1, s2, s3⟩, -⟩ := bx4 z3
        have hB3 := bx4_below (.int .i64 0) (.slice none 0 0) (.int .i64 0) (.int .i64 0) (show w.heap.size ≤ w.heap.size + 1 + 1 by omega) hB2
        clear z2 z3
        go_wp2_with fail
        refine bodyPost_ret (v := .tuple #[.agg #[.int .i64 0, .slice none 0 0, .int .i64 0, .int .i64 0], .int .i64 e1]) (by simp [results, Try.results57, go_sem, s0, s1, s2, s3]) rfl ?_
        exact hm_zero HF.out hB3
    · have hz1 := hdone.out.1 (by omega)
      have hbA := hBw.alloc hBw.size (Obj.cells #[.int .i64 b.k, .slice bo m cb, .int .i64 b.n, .int .i64 b.off] 86)
      have hbr2 := hbr.alloc (hbr.size) (Obj.cells #[.int .i64 b.k, .slice bo m cb, .int .i64 b.n, .int .i64 b.off] 86)
      by_cases hz : e2 = 0
      · have HN : Hid ((1 ≤ (2 : Int) → e1 = 0) ∧ (2 ≤ (2 : Int) → e2 = 0)) := ⟨fun _ => hz1, fun _ => hz⟩
        have t1 : (e2 != 0) = false := by rw [hz]; rfl
        clear hz
        go_wp2_with fail
        refine (hvcheck_any _ b _ (HVB.out.below hbA)).mono ?_
        rw [HE2.out]
        rintro e w1 ⟨rfl, hb1⟩
        go_wp2_with fail
        go_roundw
        case rel => exact ⟨2, Or.inr (Or.inr rfl), rfl, hbr2.trans (hb1.mono hbr2.size), HN⟩
        case measure => simp [intOf]
      · have HF : Hid (mergeR a b = (hv0, e2)) := Lib.hid (mr_bad2 (HE1.out.trans hz1) HE2.out hz)
        have t1 : (e2 != 0) = true := by rw [bne_iff_ne]; exact hz
        clear hz
        go_wp2_with fail
        refine (hvcheck_any _ b _ (HVB.out.below hbA)).mono ?_
        rw [HE2.out]
        rintro e w1 ⟨rfl, hb1⟩
        have hb2 := hbr2.trans (hb1.mono hbr2.size)
        have hB2 := hbA.trans (hb1.mono hbA.size)
        have z2 := (hb2.block _ hlt2).trans hA2
        obtain ⟨⟨r0, r1, r2, r3⟩, ⟨f0, f1, f2, f3⟩⟩ := bx4 z2
        have z3 := bx4_store (.int .i64 0) (.slice none 0 0) (.int .i64 0) (.int .i64 0) z2
        obtain ⟨⟨s0, s1, s2, s3⟩, -⟩ := bx4 z3
        have hB3 := bx4_below (.int .i64 0) (.slice none 0 0) (.int .i64 0) (.int .i64 0) (show w.heap.size ≤ w.heap.size + 1 + 1 by omega) hB2
        clear z2 z3
        go_wp2_with fail
        refine bodyPost_ret (v := .tuple #[.agg #[.int .i64 0, .slice none 0 0, .int .i64 0, .int .i64 0], .int .i64 e2]) (by simp [results, Try.results57, go_sem, s0, s1, s2, s3]) rfl ?_
        exact hm_zero HF.out hB3
    · have hz1 := hdone.out.1 (by omega)
      have hz2 := hdone.out.2 (by omega)
      have hk1 := HE1.out.trans hz1
      have hk2 := HE2.out.trans hz2
      clear l0 l1 l2 l3 l4 l5 l6 l7 q3 hdone hz1 hz2
      obtain ⟨⟨x0, x1, x2, x3⟩, -⟩ := bx4 q0
      obtain ⟨⟨y0, y1, y2, y3⟩, -⟩ := bx4 q1
      have HK1 := Lib.hid hk1
      have HK2 := Lib.hid hk2
      have hw1 := heavy_ok hk1
      have hw2 := heavy_ok hk2
      obtain ⟨a1, a2, a3, a4, a5, a6, a7⟩ := headH_ok.1 hw1.1
      obtain ⟨c1, c2, c3, c4, c5, c6, c7⟩ := headH_ok.1 hw2.1
      rw [HNN.out] at a3
      rw [HMM.out] at c3
      have HW1 := Lib.hid hw1
      have HW2 := Lib.hid hw2
      have j1 : IntKind.i64.wrap (a.n + b.n) = a.n + b.n := IntWalk.i64_in _ (by omega)
      have j2 : IntKind.i64.wrap (a.off + b.off) = a.off + b.off := IntWalk.i64_in _ (by omega)
      clear hk1 hk2 hw1 hw2
      by_cases hDD : a.k = b.k
      case neg =>
        have HF : Hid (mergeR a b = (hv0, 1)) := Lib.hid (mr_k HK1.out HK2.out hDD)
        have t1 : (a.k != b.k) = true := by rw [bne_iff_ne]; exact hDD
        clear hDD
        have z2 := (hbr.block _ hlt2).trans hA2
        obtain ⟨⟨r0, r1, r2, r3⟩, ⟨f0, f1, f2, f3⟩⟩ := bx4 z2
        have z3 := bx4_store (.int .i64 0) (.slice none 0 0) (.int .i64 0) (.int .i64 0) z2
        obtain ⟨⟨s0, s1, s2, s3⟩, -⟩ := bx4 z3
        have hB3 := bx4_below (.int .i64 0) (.slice none 0 0) (.int .i64 0) (.int .i64 0) (show w.heap.size ≤ w.heap.size + 1 + 1 by omega) hBw
        clear z2 z3
        go_wp2_with fail
        refine bodyPost_ret (v := .tuple #[.agg #[.int .i64 0, .slice none 0 0, .int .i64 0, .int .i64 0], .int .i64 1]) (by simp [results, Try.results57, go_sem, s0, s1, s2, s3]) rfl ?_
        exact hm_zero HF.out hB3
      have t1 : (a.k != b.k) = false := by rw [← hDD]; simp
      have HDD := Lib.hid hDD
      clear hDD
      by_cases hmuch : 1000000000 < a.n + b.n
      · have HF : Hid (mergeR a b = (hv0, 2)) := Lib.hid (mr_large HK1.out HK2.out HDD.out hmuch)
        have z2 := (hbr.block _ hlt2).trans hA2
        obtain ⟨⟨r0, r1, r2, r3⟩, ⟨f0, f1, f2, f3⟩⟩ := bx4 z2
        have z3 := bx4_store (.int .i64 0) (.slice none 0 0) (.int .i64 0) (.int .i64 0) z2
        obtain ⟨⟨s0, s1, s2, s3⟩, -⟩ := bx4 z3
        have hB3 := bx4_below (.int .i64 0) (.slice none 0 0) (.int .i64 0) (.int .i64 0) (show w.heap.size ≤ w.heap.size + 1 + 1 by omega) hBw
        clear z2 z3
        go_wp2_with fail
        refine bodyPost_ret (v := .tuple #[.agg #[.int .i64 0, .slice none 0 0, .int .i64 0, .int .i64 0], .int .i64 2]) (by simp [results, Try.results57, go_sem, s0, s1, s2, s3]) rfl ?_
        exact hm_zero HF.out hB3
      have HF : Hid (mergeR a b = (mergedF a b, 0)) := Lib.hid (mr_ok HK1.out HK2.out HDD.out hmuch)
      obtain ⟨P, hP1, hP2, hP3, hP4⟩ := HS.out.below ctR_mono hBw
      rw [HNN.out] at hP4
      have HPP := Lib.hid (And.intro hP1 (And.intro hP2 hP3))
      have HP4 := Lib.hid hP4
      have HONE := Lib.hid (pc_ones hP3)
      have HX : Hid (∀ W, Below wr.heap.size wr W → W.heap[w.heap.size]? = some (.cells #[.int .i64 a.k, .slice ao n ca, .int .i64 a.n, .int .i64 a.off] 86 (0, 0)) ∧ W.heap[w.heap.size + 1]? = some (.cells #[.int .i64 b.k, .slice bo m cb, .int .i64 b.n, .int .i64 b.off] 86 (0, 0)) ∧ W.heap[w.heap.size + 1 + 1]? = some (.cells #[.int .i64 0, .slice none 0 0, .int .i64 0, .int .i64 0] 86 (0, 0)) ∧ Below w.heap.size w W) := Lib.hid (fun W h => by
        have hs := hbr.size
        exact ⟨(h.block _ (by omega)).trans q0, (h.block _ (by omega)).trans q1, (h.block _ (by omega)).trans q2, hBw.trans (h.mono hBw.size)⟩)
      clear hP1 hP2 hP3 hP4 q0 q1 q2
      go_upto_region 12 with (fail)
      go_cut [9] (fun t wx => ∃ b9 co cc, t = .pointer (some ⟨b9, 0, none⟩) ∧ Hid (MgAt wr b9 a.k (a.n + b.n) (a.off + b.off) a.l co n cc wx))
      case first =>
        have hbd : Below wr.heap.size wr wr.drew := (Below.refl _ wr).drew
        have HXS : Hid (∀ W, Below wr.heap.size wr W → (W.cell? ⟨w.heap.size, 0, none⟩ = some (.int .i64 a.k) ∧ W.cell? ⟨w.heap.size, 1, none⟩ = some (.slice ao n ca) ∧ W.cell? ⟨w.heap.size, 2, none⟩ = some (.int .i64 a.n) ∧ W.cell? ⟨w.heap.size, 3, none⟩ = some (.int .i64 a.off) ∧ W.cell? ⟨w.heap.size + 1, 2, none⟩ = some (.int .i64 b.n) ∧ W.cell? ⟨w.heap.size + 1, 3, none⟩ = some (.int .i64 b.off))) := Lib.hid (fun W h => by
          obtain ⟨xa, xb, -, -⟩ := HX.out _ h
          obtain ⟨⟨m0, m1, m2, m3⟩, -⟩ := bx4 xa
          obtain ⟨⟨n0, n1, n2, n3⟩, -⟩ := bx4 xb
          exact ⟨m0, m1, m2, m3, n2, n3⟩)
        have z0 := HXS.out _ hbd
        have hbe : ∀ o, Below wr.heap.size wr (wr.alloc o).drew := fun o => ((Below.refl _ wr).alloc (Nat.le_refl _) o).drew
        have z0a := fun o => HXS.out _ (hbe o)
        clear x0 x1 x2 x3 y0 y1 y2 y3
        go_region_held3 (fun w' => w'.cell? ⟨w.heap.size, 0, none⟩ = some (.int .i64 a.k) ∧ w'.cell? ⟨w.heap.size, 1, none⟩ = some (.slice ao n ca) ∧ w'.cell? ⟨w.heap.size, 2, none⟩ = some (.int .i64 a.n) ∧ w'.cell? ⟨w.heap.size, 3, none⟩ = some (.int .i64 a.off) ∧ w'.cell? ⟨w.heap.size + 1, 2, none⟩ = some (.int .i64 b.n) ∧ w'.cell? ⟨w.heap.size + 1, 3, none⟩ = some (.int .i64 b.off)) (first | (with_reducible exact z1) | (with_reducible exact z1a _) | (with_reducible exact z0) | (with_reducible exact z0a _) | (exact HXS.out _ (bx4_below _ _ _ _ (Nat.le_refl _) hbq)) | (exact HXS.out _ (bx4_below _ _ _ _ hbq.size (hbq.alloc hbq.size _))) | go_keep) (first
          | (go_at_call 116; refine (clone_ct _ n (pc P) _ (HP4.out.below (by first | exact hbd | exact hbe _)) HONE.out (by omega)).mono ?_; rintro e w1 ⟨v1, rfl, hown1, hb1⟩; obtain ⟨co, cc, rfl, hcc, -, -⟩ := own_shape hown1; have hbq : Below wr.heap.size wr w1 := (by first | exact hbd.trans hb1 | exact (hbe _).trans (hb1.mono (hbe _).size)); have z1 := HXS.out _ hbq; have z1a := fun o => HXS.out _ (hbq.alloc hbq.size o); try (have zb := (hb1.block wr.heap.size (by simp)).trans (heap_alloc_new wr _); obtain ⟨⟨o0, o1, o2, o3⟩, ⟨k0, k1, k2, k3⟩⟩ := bx4 zb)))
        · have hne : (Value.slice co n cc).ownBlock ≠ some w1.heap.size := fun h => by have := (hown1.lt _ h).2; omega
          go_wp2
          go_meet
          exact ⟨_, _, _, rfl, Lib.hid ⟨heap_alloc_new w1 _, ⟨P, HPP.out.1, HPP.out.2.1, HPP.out.2.2, hown1.alloc _⟩, hne, hbq.size, hbq.alloc hbq.size _, HNN.out⟩⟩
        · have hne : (Value.slice co n cc).ownBlock ≠ some wr.heap.size := fun h => by have := (hown1.lt _ h).1; simp at this; omega
          go_wp2
          go_meet
          exact ⟨_, _, _, rfl, Lib.hid ⟨bx4_store _ _ _ _ zb, ⟨P, HPP.out.1, HPP.out.2.1, HPP.out.2.2, own_stores_other (b := wr.heap.size) hne [.int .i64 a.k, .slice co n cc, .int .i64 (a.n + b.n), .int .i64 (a.off + b.off)] _ 0 (own_mono hown1 (by simp))⟩, hne, Nat.le_refl _, bx4_below _ _ _ _ (Nat.le_refl _) hbq, HNN.out⟩⟩
      obtain ⟨b9, co, cc, rfl, HM0⟩ := hcut
      clear HPP HP4 HONE x0 x1 x2 x3 y0 y1 y2 y3
      obtain ⟨xa, xb, -, -⟩ := HX.out _ HM0.out.bel
      obtain ⟨⟨x0, x1, x2, x3⟩, -⟩ := bx4 xa
      obtain ⟨⟨y0, y1, y2, y3⟩, -⟩ := bx4 xb
      clear xa xb
      obtain ⟨wB, rfl⟩ : ∃ x, x = wr := ⟨_, rfl⟩
      go_wp2_with fail
      go_loopw [11, 12, 13, 67] (fun _ _ _ i wx => ∃ (j : Nat) (ro : Option Addr) (p rc : Nat), j ≤ m ∧ i = .int .i64 j ∧ Hid (MgAt wB b9 a.k (a.n + b.n) (a.off + b.off) (foldC a.l (b.l.take j)) ro p rc wx)) (fun _ _ _ i _ => m - (intOf i).toNat)
      case atStart => exact ⟨0, _, _, _, Nat.zero_le _, rfl, HM0⟩
      case round =>
        obtain ⟨j, ro, p, rc, hj, rfl, HM⟩ := hrel
        have hfold := fold_on HW1.out HW2.out (k := j) (by rw [HMM.out]; exact hj)
        by_cases hlt : j < m
        · obtain ⟨x, hx⟩ : ∃ x, b.l[j]? = some x := ⟨_, List.getElem?_eq_getElem (by rw [HMM.out]; exact hlt)⟩
          obtain ⟨bb, off, cs, rfl, rfl, _, hck⟩ := (HT.out.below ctR_mono (HX.out _ HM.out.bel).2.2.2).get hx
          have d0 := hck 0 _ rfl
          have d1 := hck 1 _ rfl
          rw [Nat.add_zero] at d0
          have hxk := (ris_of HW2.out.2.1).1 x (List.mem_of_getElem? hx)
          have hxs : x.n ≤ 1000000000 := by
            have h1 := sumN_mem (fun y hy => ((ris_of HW2.out.2.1).1 y hy).2) (List.mem_of_getElem? hx)
            have h2 := well_sum HW2.out
            omega
          have HFT : Hid (foldC a.l (b.l.take (j + 1)) = cnted x.ky x.n (foldC a.l (b.l.take j)) false) := Lib.hid (foldC_take hx)
          obtain ⟨L, hL⟩ : ∃ L, foldC a.l (b.l.take j) = L := ⟨_, rfl⟩
          rw [hL] at HM HFT hfold
          obtain ⟨hris, hLl, hLb⟩ := hfold
          rw [HNN.out] at hLl
          have HRIS := Lib.hid hris
          have HLB := Lib.hid hLb
          have hpl := HM.out.len
          clear hck hx hL hris hLb x0 x1 x2 x3 y0 y1 y2 y3
          go_upto_region 16 with (fail)
          obtain ⟨wC, hwC⟩ : ∃ wC, wC = wr.alloc (Obj.cells #[.string x.ky, .int .i64 x.n] 175) := ⟨_, rfl⟩
          have hbC : Below wr.heap.size wr wC := by rw [hwC]; exact (Below.refl _ _).alloc (Nat.le_refl _) _
          have hbox : wC.heap[wr.heap.size]? = some (.cells #[.string x.ky, .int .i64 x.n] 175 (0, 0)) := by rw [hwC]; exact heap_alloc_new wr _
          rw [← hwC]
          have HMC := Lib.hid (HM.out.below hbC)
          obtain ⟨bt, hbt⟩ : ∃ bt, wr.heap.size = bt := ⟨_, rfl⟩
          rw [hbt] at hbox ⊢
          have HBOX := Lib.hid hbox
          obtain ⟨⟨m0, m1, m2, m3⟩, -⟩ := bx4 HMC.out.box
          obtain ⟨⟨n0, n1⟩, -⟩ := bx2 hbox
          clear hwC hbC hbt hbox d0 d1
          go_wp2_with fail
          refine (find_any _ x.ky L _ HMC.out.sp HRIS.out hxk.1 (by omega)).mono ?_
          rintro e w3 ⟨i, rfl, hat, hb3⟩
          obtain ⟨D, hD⟩ : ∃ D, hitB L x.ky i = D := ⟨_, rfl⟩
          rw [hD]
          have HD := Lib.hid hD
          have HAT := Lib.hid hat
          have HM3 := Lib.hid (HMC.out.below hb3)
          have hb3x := (hb3.block bt (Array.getElem?_eq_some_iff.1 HBOX.out).1).trans HBOX.out
          have hil : i ≤ p := by have := HAT.out.1; omega
          clear m0 m1 m2 m3 n0 n1 hb3 hat hD HMC HBOX
          obtain ⟨⟨m0, m1, m2, m3⟩, ⟨f0, f1, f2, f3⟩⟩ := bx4 HM3.out.box
          obtain ⟨⟨n0, n1⟩, -⟩ := bx2 hb3x
          cases D with
          | true =>
            have hil2 : i < p := by
              rcases Nat.lt_or_ge i p with h | h
              · exact h
              · have := hitB_none (key := x.ky) (show L.length ≤ i by omega)
                rw [HD.out] at this
                simp at this
            obtain ⟨y, hy⟩ : ∃ y, L[i]? = some y := ⟨_, List.getElem?_eq_getElem (by omega)⟩
            have hh := HD.out
            rw [hitB_some hy] at hh
            have hyb := HLB.out y (List.mem_of_getElem? hy)
            have hcn := cnted_at (n := x.n) HRIS.out HAT.out hy (of_decide_eq_true hh)
            have hwr : IntKind.i64.wrap (y.n + x.n) = y.n + x.n := IntWalk.i64_in _ (by omega)
            obtain ⟨P, hP1, hP2, hP3, hP4⟩ := HM3.out.own
            obtain ⟨g, cap, e1, hg1, -, -, -, -⟩ := own_some hP4 (by omega)
            simp at e1
            obtain ⟨rfl, rfl⟩ := e1
            obtain ⟨hnew, k0, k1⟩ := HM3.out.hit (z := y.n + x.n) hy
            rw [← hcn, ← HFT.out] at hnew
            have HN := Lib.hid hnew
            have hi1 : (0 : Int) ≤ (i : Int) := by omega
            have hi2 : (i : Int) < (p : Int) := by omega
            clear hP1 hP2 hP3 hP4 hh hy hcn hnew
            go_upto_region 18 with (fail)
            go_region
            all_goals
              go_wp2
              go_roundw
              case rel => exact ⟨j + 1, _, _, _, by omega, by go_num, Lib.hid (HN.out.below (Below.refl _ _).drew)⟩
              case measure => simp [intOf]; omega
          | false =>
            obtain ⟨P, hP1, hP2, hP3, hP4⟩ := HM3.out.own
            have hone := pc_ones hP3
            have hci := cnted_ins (n := x.n) HRIS.out HAT.out HD.out
            have hPm : P.length = p := by rw [← hpl, ← hP1, List.length_map]
            have NE5 : (Value.slice ro p rc).ownBlock ≠ some w3.heap.size := fun h => by have := (hP4.lt _ h).2; omega
            have hge := HM3.out.bel.size
            have hl9 := HM3.out.lt
            have hlow := HM3.out.low
            go_wp2_with fail
            refine (insert_ct _ p i wB.heap.size w3.heap.size (pc P) [.string x.ky, .int .i64 x.n] _ (hP4.alloc _) (heap_alloc_new w3 _) rfl NE5 hil (by omega) (by simp; omega) hone (by intro u hu; simp at hu; rcases hu with rfl | rfl <;> rfl)).mono ?_
            rintro e w6 ⟨v6, rfl, hown6, hg6⟩
            obtain ⟨ao6, c6, rfl, hnc6, -, -⟩ := own_shape hown6
            rw [pc_take hP2 i, pc_drop hP2 i (by omega), ← pc_ins P x [.string x.ky, .int .i64 x.n] i] at hown6
            have Y1 := grown_block2 hg6 HM3.out.ne (show (w3.alloc (Obj.cells [.string x.ky, .int .i64 x.n].toArray 175)).heap[b9]? = _ from by rw [← HM3.out.box]; exact heap_alloc_old _ _ hl9)
            have HB6 : Below wB.heap.size wB w6 := Below.grown (HM3.out.bel.alloc hge _) hg6 (by simp; omega) (fun k hk => (hP4.lt k hk).1)
            have hNE6 : (Value.slice ao6 (p + 1) c6).ownBlock ≠ some b9 := own_block_ne hown6 Y1 (by decide)
            have HL7 : Hid ((L.take i ++ ⟨x.ky, x.n⟩ :: L.drop i).length = p + 1) := Lib.hid (by rw [List.length_append, List.length_cons, List.length_take, List.length_drop]; omega)
            have hnew := MgAt.put (L' := foldC a.l (b.l.take (j + 1))) Y1 ⟨P.take i ++ (x, [.string x.ky, .int .i64 x.n]) :: P.drop i, by rw [map_ins, hP1, HFT.out, hci], hP2.ins rfl i, all_ins (Q := fun q => CtR w6 q.1 q.2) (fun q hq => hP3 q hq) (a := x) (c := [.string x.ky, .int .i64 x.n]) rfl i, hown6⟩ hNE6 hlow HB6 (by rw [HFT.out, hci]; exact HL7.out)
            have HN := Lib.hid hnew
            clear m0 m1 m2 m3 f0 f1 f2 f3 hown6 hg6 hP1 hP2 hP3 hP4 hone hci hnew HM3
            obtain ⟨⟨m0, m1, m2, m3⟩, ⟨f0, f1, f2, f3⟩⟩ := bx4 Y1
            clear Y1
            go_wp2_with fail
            go_roundw
            case rel => exact ⟨j + 1, _, _, _, by omega, by go_num, HN⟩
            case measure => simp [intOf]; omega
        · have hjm : j = m := by omega
          subst hjm
          obtain ⟨L, hL⟩ : ∃ L, foldC a.l b.l = L := ⟨_, rfl⟩
          rw [List.take_of_length_le (by rw [HMM.out]; exact Nat.le_refl _), hL] at HM hfold
          obtain ⟨hris, hLl, hLb⟩ := hfold
          rw [HNN.out] at hLl
          have hpl := HM.out.len
          have HL := Lib.hid hL
          have HLB := Lib.hid hLb
          have hb4 : w.heap.size + 1 + 1 < wB.heap.size := Nat.lt_of_lt_of_le hlt2 hbr.size
          clear hL hris hLb x0 x1 x2 x3 y0 y1 y2 y3 hlt
          by_cases hle : (p : Int) ≤ a.k
          · have HMF : Hid (mergedF a b = ⟨a.k, L, a.n + b.n, a.off + b.off⟩) := Lib.hid (by unfold mergedF; rw [HL.out, hpl, if_pos hle])
            have HME := HM
            obtain ⟨⟨a0, a1, a2, a3⟩, -⟩ := bx4 HME.out.box
            obtain ⟨-, -, z2, hbE⟩ := HX.out _ HME.out.bel
            obtain ⟨⟨r0, r1, r2, r3⟩, ⟨h0, h1, h2, h3⟩⟩ := bx4 z2
            have hst := bx4_store (.int .i64 a.k) (.slice ro p rc) (.int .i64 (a.n + b.n)) (.int .i64 (a.off + b.off)) z2
            obtain ⟨⟨s0, s1, s2, s3⟩, -⟩ := bx4 hst
            have HBF := Lib.hid (bx4_below (.int .i64 a.k) (.slice ro p rc) (.int .i64 (a.n + b.n)) (.int .i64 (a.off + b.off)) (show w.heap.size ≤ w.heap.size + 1 + 1 by omega) hbE)
            have HSF := Lib.hid (HME.out.fin (b4 := w.heap.size + 1 + 1) hb4 [.int .i64 a.k, .slice ro p rc, .int .i64 (a.n + b.n), .int .i64 (a.off + b.off)])
            clear hst z2 hbE
            go_wp2_with fail
            refine bodyPost_ret (v := .tuple #[.agg #[.int .i64 a.k, .slice ro p rc, .int .i64 (a.n + b.n), .int .i64 (a.off + b.off)], .int .i64 0]) (by simp [results, Try.results57, go_sem, s0, s1, s2, s3]) rfl ?_
            show HvPost _ _ _ _
            rw [HF.out, HMF.out]
            exact ⟨_, rfl, HSF.out, HBF.out⟩
          · obtain ⟨kk, hkk⟩ : ∃ kk : Nat, a.k = (kk : Int) := ⟨a.k.toNat, by omega⟩
            have hmf : mergedF a b = ⟨a.k, lessF (mostK a.k L p) L, a.n + b.n, a.off + b.off + mostK a.k L p⟩ := by unfold mergedF; rw [HL.out, hpl, if_neg hle]
            obtain ⟨wE, rfl⟩ : ∃ x, x = wr := ⟨_, rfl⟩
            have HMS := HM
            obtain ⟨⟨m0, m1, m2, m3⟩, -⟩ := bx4 HM.out.box
            have HMF0 := Lib.hid hmf
            have HKK := Lib.hid hkk
            have hkp : kk < p := by omega
            have hk1 : 1 ≤ kk := by omega
            clear hmf hkk
            go_wp2_with fail
            go_loopw [14, 16, 108] (fun v _ i wx => ∃ q : Nat, q ≤ p ∧ i = .int .i64 q ∧ Hid (MgAt wB b9 a.k (a.n + b.n) (a.off + b.off) L ro p rc wx) ∧ Hid (wx.ownsRow wB.heap.size 2 1 v q (((L.take q).map (·.n)).map (Value.int .i64)))) (fun _ _ i _ => p - (intOf i).toNat)
            case atStart => exact ⟨0, Nat.zero_le _, rfl, HMS, Lib.hid (World.ownsRow_nil _ _ _ _)⟩
            case round =>
              obtain ⟨q, hq, rfl, HMQ, HQ⟩ := hrel
              obtain ⟨uo, uc, rfl, huc, -, -⟩ := own_shape HQ.out
              by_cases hlt : q < p
              · obtain ⟨x, hx⟩ : ∃ x, L[q]? = some x := ⟨_, List.getElem?_eq_getElem (by rw [hpl]; exact hlt)⟩
                obtain ⟨bb, off, cs, rfl, rfl, _, hck⟩ := HMQ.out.sp.get hx
                have d0 := hck 0 _ rfl
                have d1 := hck 1 _ rfl
                rw [Nat.add_zero] at d0
                have HTK : Hid (((L.take q).map (·.n)).map (Value.int .i64) ++ [Value.int .i64 x.n] = ((L.take (q + 1)).map (·.n)).map (Value.int .i64)) := Lib.hid (by
                  obtain ⟨h1, h2⟩ := List.getElem?_eq_some_iff.1 hx
                  rw [List.take_succ_eq_append_getElem h1, h2, List.map_append, List.map_append]
                  rfl)
                clear hck hx m0 m1 m2 m3
                go_upto_region 26 with (fail)
                obtain ⟨wC, hwC⟩ : ∃ wC, wC = wr.alloc (Obj.cells #[.string x.ky, .int .i64 x.n] 175) := ⟨_, rfl⟩
                have hbC : Below wr.heap.size wr wC := by rw [hwC]; exact (Below.refl _ _).alloc (Nat.le_refl _) _
                have hbox : wC.heap[wr.heap.size]? = some (.cells #[.string x.ky, .int .i64 x.n] 175 (0, 0)) := by rw [hwC]; exact heap_alloc_new wr _
                rw [← hwC]
                have HMC := Lib.hid (HMQ.out.below hbC)
                have hQC := own_below HQ.out hbC
                obtain ⟨bt, hbt⟩ : ∃ bt, wr.heap.size = bt := ⟨_, rfl⟩
                rw [hbt] at hbox ⊢
                obtain ⟨⟨n0, n1⟩, -⟩ := bx2 hbox
                have hszC := HMC.out.bel.size
                clear hwC hbC hbt hbox d0 d1 HMQ HQ
                go_wp2_with (at_builtin; refine append1 [.int .i64 x.n] Sort64.elI64 rfl _ _ rfl hQC HMC.out.bel hszC rfl rfl rfl (by intro u hu; simp at hu; rw [hu]; rfl) ?c4 ?c5 ?_)
                case c4 => omega
                case c5 => omega
                intro v7 w7 hown7 hbel7 hgr7
                have hown8 : w7.ownsRow wB.heap.size 2 1 v7 (q + 1) (((L.take (q + 1)).map (·.n)).map (Value.int .i64)) := by rw [← HTK.out]; simpa using hown7
                obtain ⟨P, hP1, hP2, hP3, hP4⟩ := HMC.out.own
                have HM7 := Lib.hid (HMC.out.grown hgr7 (own_block_ne hQC HMC.out.box (by decide)) (own_rows_ne hQC hP4 (by decide)) hbel7)
                have HO7 := Lib.hid hown8
                clear hown7 hown8 hgr7 hP1 hP2 hP3 hP4 hQC
                go_wp2_with fail
                go_roundw
                case rel => exact ⟨q + 1, by omega, by go_num, HM7, HO7⟩
                case measure => simp [intOf]; omega
              · have hqp : q = p := by omega
                subst hqp
                have hown := HQ.out
                rw [List.take_of_length_le (by omega)] at hown
                have HQ2 := Lib.hid hown
                obtain ⟨P, hP1, hP2, hP3, hP4⟩ := HMQ.out.own
                have hne1 := own_block_ne hown HMQ.out.box (by decide)
                have hne2 := own_rows_ne hown hP4 (by decide)
                clear hown m0 m1 m2 m3 hP1 hP2 hP3 hP4
                go_wp2_with fail
                refine (Sort64.sort_own _ q wB.heap.size (L.map (·.n)) _ HQ2.out (by omega)).mono ?_
                rintro e w8 ⟨rfl, hown8, hg8⟩
                have HM8 := Lib.hid (HMQ.out.grown hg8 hne1 hne2 (Below.grown HMQ.out.bel hg8 HMQ.out.bel.size (fun k hk => (HQ2.out.lt k hk).1)))
                obtain ⟨ss, hss⟩ : ∃ ss, (L.map (·.n)).mergeSort (fun x y => decide (x ≤ y)) = ss := ⟨_, rfl⟩
                rw [hss] at hown8
                have hperm : ss.Perm (L.map (·.n)) := by rw [← hss]; exact List.mergeSort_perm _ _
                have hpw : ss.Pairwise (· ≤ ·) := by rw [← hss]; exact Sort64.sorted_le _
                have hsl : ss.length = q := by rw [hperm.length_eq, List.length_map, hpl]
                obtain ⟨z, hz⟩ : ∃ z, ss[q - 1 - kk]? = some z := ⟨_, List.getElem?_eq_getElem (by omega)⟩
                have hmost : mostK a.k L q = z := by
                  have := most_sorted hperm hpw (by rw [hpl]; exact hkp) (fun x hx => (HLB.out x hx).1) (by rw [hpl]; exact hz)
                  rw [hpl, ← HKK.out] at this
                  exact this
                have hzb := most_bd (K := a.k) HLB.out q
                rw [hmost] at hzb
                obtain ⟨g, cap, e1, hg1, -, -, -, -⟩ := own_some hown8 (by omega)
                simp at e1
                obtain ⟨rfl, rfl⟩ := e1
                have c0 : w8.cell? ⟨g, q - 1 - kk, none⟩ = some (.int .i64 z) := by
                  rw [hown8.cellAt _ (by omega), List.getElem?_map, hz]
                  rfl
                have hmf := HMF0.out
                rw [hmost] at hmf
                have HMF := Lib.hid hmf
                obtain ⟨ii, hii⟩ : ∃ ii, q - 1 - kk = ii := ⟨_, rfl⟩
                rw [hii] at c0
                have k1 : IntKind.i64.wrap ((q : Int) - 1) = (q : Int) - 1 := IntWalk.i64_in _ (by omega)
                have k2 : IntKind.i64.wrap ((q : Int) - 1 - a.k) = (ii : Int) := by
                  rw [IntWalk.i64_in _ (by have := HKK.out; omega)]
                  have := HKK.out
                  omega
                have k3 : IntKind.i64.wrap (a.off + b.off + z) = a.off + b.off + z := IntWalk.i64_in _ (by omega)
                have hi1 : (0 : Int) ≤ (ii : Int) := by omega
                have hi2 : (ii : Int) < (q : Int) := by omega
                obtain ⟨⟨m0, m1, m2, m3⟩, -⟩ := bx4 HM8.out.box
                have hl9 := HM8.out.lt
                clear hown8 hg8 hss hperm hpw hz hmost hmf HMF0 hii
                go_wp2_with fail
                refine (less_any _ z L _ HM8.out.sp (by omega) hzb.1 (by omega) (fun x hx => by have := HLB.out x hx; omega)).mono ?_
                rintro e w9 ⟨v9, rfl, how9, hb9⟩
                obtain ⟨q9, hq9⟩ : ∃ n, (lessF z L).length = n := ⟨_, rfl⟩
                obtain ⟨Q, hQ1, hQ2, hQ3, hown9⟩ := how9
                rw [hq9] at hown9
                obtain ⟨ao9, c9, rfl, hnc9, -, -⟩ := own_shape hown9
                have Y1 := (hb9.block _ hl9).trans HM8.out.box
                have hne9 := own_block_ne hown9 Y1 (by decide)
                have hM9 := MgAt.put (L' := lessF z L) Y1 ⟨Q, hQ1, hQ2, hQ3, own_mono hown9 HM8.out.bel.size⟩ hne9 HM8.out.low (HM8.out.bel.trans (hb9.mono HM8.out.bel.size)) hq9
                obtain ⟨⟨y0, y1, y2, y3⟩, ⟨z0, z1, z2, z3⟩⟩ := bx4 hM9.box
                have HME0 := Lib.hid (hM9.off (a.off + b.off + z))
                clear m0 m1 m2 m3 c0 hb9 hown9 hQ1 hQ2 hQ3 hM9 hne9
                obtain ⟨⟨m0, m1, m2, m3⟩, ⟨f0, f1, f2, f3⟩⟩ := bx4 Y1
                clear Y1
                go_upto_region 32 with (fail)
                obtain ⟨wF, hwF⟩ : ∃ x, x = (w9.setCell ⟨b9, 1, none⟩ (.slice ao9 q9 c9)).setCell ⟨b9, 3, none⟩ (.int .i64 (a.off + b.off + z)) := ⟨_, rfl⟩
                have HME : Hid (MgAt wB b9 a.k (a.n + b.n) (a.off + b.off + z) (lessF z L) ao9 q9 c9 wF) := Lib.hid (by rw [hwF]; exact HME0.out)
                rw [← hwF]
                clear hwF HME0 m0 m1 m2 m3 f0 f1 f2 f3 y0 y1 y2 y3 z0 z1 z2 z3
                obtain ⟨⟨a0, a1, a2, a3⟩, -⟩ := bx4 HME.out.box
                obtain ⟨-, -, z2, hbE⟩ := HX.out _ HME.out.bel
                obtain ⟨⟨r0, r1, r2, r3⟩, ⟨h0, h1, h2, h3⟩⟩ := bx4 z2
                have hst := bx4_store (.int .i64 a.k) (.slice ao9 q9 c9) (.int .i64 (a.n + b.n)) (.int .i64 (a.off + b.off + z)) z2
                obtain ⟨⟨s0, s1, s2, s3⟩, -⟩ := bx4 hst
                have HBF := Lib.hid (bx4_below (.int .i64 a.k) (.slice ao9 q9 c9) (.int .i64 (a.n + b.n)) (.int .i64 (a.off + b.off + z)) (show w.heap.size ≤ w.heap.size + 1 + 1 by omega) hbE)
                have HSF := Lib.hid (HME.out.fin (b4 := w.heap.size + 1 + 1) hb4 [.int .i64 a.k, .slice ao9 q9 c9, .int .i64 (a.n + b.n), .int .i64 (a.off + b.off + z)])
                clear hst z2 hbE
                go_wp2_with fail
                refine bodyPost_ret (v := .tuple #[.agg #[.int .i64 a.k, .slice ao9 q9 c9, .int .i64 (a.n + b.n), .int .i64 (a.off + b.off + z)], .int .i64 0]) (by simp [results, Try.results57, go_sem, s0, s1, s2, s3]) rfl ?_
                show HvPost _ _ _ _
                rw [HF.out, HMF.out]
                exact ⟨_, rfl, HSF.out, HBF.out⟩
end Go.Proofs.Ytcljeedmiobepaa.Hv
