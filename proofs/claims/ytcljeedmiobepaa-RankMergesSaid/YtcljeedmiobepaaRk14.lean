/-
  Ranks: what is known of a rank that bears the stores into boxes to come.
-/
import Derived.Test.YtcljeedmiobepaaRk13
namespace Go.Proofs.Ytcljeedmiobepaa.Rk
open Go.RowKit Go.Gh
set_option linter.unusedVariables false
/-- The world is as it was in what is older than B and in the blocks of kind K. -/
structure Ag (K : TypeId → Prop) (B : Nat) (w w' : World) : Prop where
  size : w.heap.size ≤ w'.heap.size
  block : ∀ b, b < w.heap.size → (b < B ∨ ∃ cs T fr, K T ∧ w.heap[b]? = some (.cells cs T fr)) → w'.heap[b]? = w.heap[b]?
theorem Ag.refl (K : TypeId → Prop) (B : Nat) (w : World) : Ag K B w w := ⟨Nat.le_refl _, fun _ _ _ => rfl⟩
theorem Ag.trans {K : TypeId → Prop} {B : Nat} {w w1 w2 : World} (h1 : Ag K B w w1) (h2 : Ag K B w1 w2) : Ag K B w w2 :=
  ⟨Nat.le_trans h1.size h2.size, fun b hb hc => by
    have e1 := h1.block b hb hc
    refine (h2.block b (Nat.lt_of_lt_of_le hb h1.size) ?_).trans e1
    rcases hc with hc | ⟨cs, T, fr, hk, hc⟩
    · exact Or.inl hc
    · exact Or.inr ⟨cs, T, fr, hk, e1.trans hc⟩⟩
theorem Ag.weaken {K K' : TypeId → Prop} {B : Nat} {w w' : World} (h : Ag K B w w') (hk : ∀ T, K' T → K T) : Ag K' B w w' :=
  ⟨h.size, fun b hb hc => h.block b hb (hc.imp id (fun ⟨cs, T, fr, h1, h2⟩ => ⟨cs, T, fr, hk T h1, h2⟩))⟩
theorem Ag.of_below {K : TypeId → Prop} {B : Nat} {w w' : World} (h : Below w.heap.size w w') : Ag K B w w' := ⟨h.size, fun b hb _ => h.block b hb⟩
theorem Ag.set {K : TypeId → Prop} {B g i : Nat} {w : World} {T : TypeId} {cs : Array Value} {fr : Nat × Nat} {x : Value} (hB : B ≤ g) (hg : w.heap[g]? = some (.cells cs T fr)) (hT : ¬ K T) : Ag K B w (w.setCell ⟨g, i, none⟩ x) :=
  ⟨by simp, fun b hb hc => Below.heap_setCell w ⟨g, i, none⟩ x b (fun e => by
    dsimp only at e
    subst e
    rcases hc with hc | ⟨cs', T', fr', hk, hc⟩
    · omega
    · rw [hg] at hc
      simp only [Option.some.injEq, Obj.cells.injEq] at hc
      exact hT (hc.2.1 ▸ hk))⟩
theorem Ag.grown {K : TypeId → Prop} {B B' size n : Nat} {w w' : World} {T : TypeId} {v : Value} {xs : List Value} (hg : w.grownBy w' v.ownBlock) (ho : w.ownsRow B' T size v n xs) (hB : B ≤ B') (hT : ¬ K T) : Ag K B w w' :=
  ⟨hg.size, fun b hb hc => hg.block b hb (fun e => by
    rcases ho.2 with ⟨rfl, -⟩ | ⟨g, cap, cur, rfl, h1, h2, -⟩
    · simp [Value.ownBlock] at e
    · have e' : b = g := by simpa [Value.ownBlock] using e
      subst e'
      rcases hc with hc | ⟨cs', T', fr', hk, hc⟩
      · omega
      · rw [h2] at hc
        simp only [Option.some.injEq, Obj.cells.injEq] at hc
        exact hT (hc.2.1 ▸ hk))⟩
/-- A reading that bears all that keeps K. -/
def SlX (K : TypeId → Prop) (B : Nat) (w : World) (size : Nat) (v : Value) (n : Nat) (xs : List Value) : Prop := ∀ w', Ag K B w w' → Sl w' size v n xs
theorem SlX.out {K : TypeId → Prop} {B size n : Nat} {w : World} {v : Value} {xs : List Value} (h : SlX K B w size v n xs) : Sl w size v n xs := h w (Ag.refl _ _ _)
theorem SlX.go {K : TypeId → Prop} {B size n : Nat} {w w1 : World} {v : Value} {xs : List Value} (h : SlX K B w size v n xs) (ha : Ag K B w w1) : SlX K B w1 size v n xs := fun w' h' => h w' (ha.trans h')
theorem slX_old {K : TypeId → Prop} {size n : Nat} {w : World} {v : Value} {xs : List Value} (h : Sl w size v n xs) : SlX K w.heap.size w size v n xs := fun w' ha => by
  obtain ⟨ao, cap, h1, h2, h3, h4, h5, h6⟩ := h
  refine ⟨ao, cap, h1, h2, h3, h4, h5, fun hn => ?_⟩
  obtain ⟨b, off, e, hc⟩ := h6 hn
  refine ⟨b, off, e, fun i u hu => ?_⟩
  have := hc i u hu
  exact (World.cell?_of_block (w := w) (w' := w') (a := ⟨b, off + i, none⟩) (ha.block b (cell_lt this) (Or.inl (cell_lt this)))).trans this
theorem slX_own {K : TypeId → Prop} {B B' size n : Nat} {w : World} {T : TypeId} {v : Value} {xs : List Value} (h : w.ownsRow B' T size v n xs) (hK : K T) : SlX K B w size v n xs := fun w' ha => own_sl (base := B') (e := T) (by
  refine ⟨h.1, ?_⟩
  rcases h.2 with hn | ⟨g, cap, cur, rfl, hb', hgg, rest⟩
  · exact .inl hn
  · refine .inr ⟨g, cap, cur, rfl, hb', ?_, rest⟩
    rw [ha.block g (Array.getElem?_eq_some_iff.1 hgg).1 (Or.inr ⟨_, _, _, hK, hgg⟩)]
    exact hgg)
def KN (T : TypeId) : Prop := T = 2
def KL (T : TypeId) : Prop := T = 2 ∨ T = 72
theorem KL_KN (T : TypeId) (h : KN T) : KL T := Or.inl h
theorem KN_lv : ¬ KN 72 := by unfold KN; decide
theorem KN_rk : ¬ KN 141 := by unfold KN; decide
theorem KL_rk : ¬ KL 141 := by unfold KL; decide
def NsX (B : Nat) (w : World) (v : Value) (l : List Int) : Prop := SlX KN B w 1 v l.length (l.map (Value.int .i64))
theorem NsX.out {B : Nat} {w : World} {v : Value} {l : List Int} (h : NsX B w v l) : Ns w v l := SlX.out h
theorem NsX.go {B : Nat} {w w1 : World} {v : Value} {l : List Int} (h : NsX B w v l) (ha : Ag KN B w w1) : NsX B w1 v l := SlX.go h ha
theorem nsX_nil {B : Nat} {w : World} : NsX B w (.slice none 0 0) [] := fun w' _ => ns_nil
theorem nsX_own {B B' n : Nat} {w : World} {v : Value} {l : List Int} (h : w.ownsRow B' 2 1 v n (l.map (Value.int .i64))) (hn : n = l.length) : NsX B w v l := by subst hn; exact slX_own h rfl
def LvX (B : Nat) (w : World) (l : List Int) (c : List Value) : Prop := ∃ t, c = [t] ∧ NsX B w t l
theorem LvX.go {B : Nat} {w w1 : World} {l : List Int} {c : List Value} (h : LvX B w l c) (ha : Ag KN B w w1) : LvX B w1 l c := by
  obtain ⟨t, h1, h2⟩ := h
  exact ⟨t, h1, h2.go ha⟩
/-- A rank, of which the boxes to come take nothing. -/
def RkX (B : Nat) (w : World) (v : Value) (s : Rk) : Prop := ∃ (t u : Value) (P : List (List Int × List Value)), v = .agg #[.int .i64 s.k, t, u, .int .i64 s.n, .int .i64 s.sl] ∧ NsX B w t s.tl ∧ P.map (·.1) = s.lv ∧ PK 1 P ∧ (∀ p ∈ P, LvX B w p.1 p.2) ∧ SlX KL B w 1 u s.lv.length (pc P)
theorem RkX.rk {B : Nat} {w : World} {v : Value} {s : Rk} (h : RkX B w v s) : RkV w v s := by
  obtain ⟨t, u, P, h1, h2, h3, h4, h5, h6⟩ := h
  exact ⟨t, u, h1, h2.out, P, h3, h4, fun p hp => by
    obtain ⟨t, e1, e2⟩ := h5 p hp
    exact ⟨t, e1, e2.out⟩, h6.out⟩
theorem RkX.go {B : Nat} {w w1 : World} {v : Value} {s : Rk} (h : RkX B w v s) (ha : Ag KL B w w1) : RkX B w1 v s := by
  obtain ⟨t, u, P, h1, h2, h3, h4, h5, h6⟩ := h
  have hn := ha.weaken KL_KN
  exact ⟨t, u, P, h1, h2.go hn, h3, h4, fun p hp => (h5 p hp).go hn, h6.go ha⟩
theorem rkX_old {w : World} {v : Value} {s : Rk} (h : RkV w v s) : RkX w.heap.size w v s := by
  obtain ⟨t, u, h1, h2, P, h3, h4, h5, h6⟩ := h
  exact ⟨t, u, P, h1, slX_old h2, h3, h4, fun p hp => by
    obtain ⟨t, e1, e2⟩ := h5 p hp
    exact ⟨t, e1, slX_old e2⟩, slX_old h6⟩
theorem RkX.below {B : Nat} {w w1 : World} {v : Value} {s : Rk} (h : RkX B w v s) (hb : Below w.heap.size w w1) : RkX B w1 v s := h.go (Ag.of_below hb)
/-- Five stores into a box. -/
theorem Ag.stores5 {K : TypeId → Prop} {B bx : Nat} {w : World} {T : TypeId} {a0 a1 a2 a3 a4 x0 x1 x2 x3 x4 : Value} (hB : B ≤ bx) (hb : w.heap[bx]? = some (.cells #[a0, a1, a2, a3, a4] T (0, 0))) (hT : ¬ K T) :
    Ag K B w (((((w.setCell ⟨bx, 0, none⟩ x0).setCell ⟨bx, 1, none⟩ x1).setCell ⟨bx, 2, none⟩ x2).setCell ⟨bx, 3, none⟩ x3).setCell ⟨bx, 4, none⟩ x4) := by
  have h1 := row_setCell 0 x0 hb
  have h2 := row_setCell 1 x1 h1
  have h3 := row_setCell 2 x2 h2
  have h4 := row_setCell 3 x3 h3
  exact ((((Ag.set hB hb hT).trans (Ag.set hB h1 hT)).trans (Ag.set hB h2 hT)).trans (Ag.set hB h3 hT)).trans (Ag.set hB h4 hT)
/-- On the way in Carried: the levels copied, the boxes. -/
structure KAt (B bx : Nat) (w : World) (s : Rk) (l : List Int) (t u0 lval : Value) (lv : List (List Int)) (u : Value) (wr : World) : Prop where
  box : wr.heap[bx]? = some (.cells #[.int .i64 s.k, t, u0, .int .i64 s.n, .int .i64 s.sl] 141 (0, 0))
  res : wr.heap[bx + 1]? = some (.cells #[.int .i64 0, .slice none 0 0, .slice none 0 0, .int .i64 0, .int .i64 0] 141 (0, 0))
  row : ∃ P : List (List Int × List Value), P.map (·.1) = lv ∧ PK 1 P ∧ (∀ p ∈ P, LvX B wr p.1 p.2) ∧ wr.ownsRow bx 72 1 u lv.length (pc P)
  ns : NsX B wr lval l
  tl : NsX B wr t s.tl
  bel : Below bx w wr
  low : B ≤ bx ∧ bx ≤ wr.heap.size
theorem KAt.below {B bx : Nat} {w wr wx : World} {s : Rk} {l : List Int} {t u0 lval u : Value} {lv : List (List Int)} (h : KAt B bx w s l t u0 lval lv u wr) (hb : Below wr.heap.size wr wx) : KAt B bx w s l t u0 lval lv u wx := by
  obtain ⟨P, h1, h2, h3, h4⟩ := h.row
  exact ⟨(hb.block _ (Array.getElem?_eq_some_iff.1 h.box).1).trans h.box, (hb.block _ (Array.getElem?_eq_some_iff.1 h.res).1).trans h.res, ⟨P, h1, h2, fun p hp => (h3 p hp).go (Ag.of_below hb), own_below h4 hb⟩, h.ns.go (Ag.of_below hb), h.tl.go (Ag.of_below hb), h.bel.trans (hb.mono h.low.2), ⟨h.low.1, Nat.le_trans h.low.2 hb.size⟩⟩
/-- The levels are copied. -/
theorem KAt.copy {B bx : Nat} {w wr w' : World} {s : Rk} {l : List Int} {t u0 lval u v' : Value} {P : List (List Int × List Value)} (h : KAt B bx w s l t u0 lval [] u wr) (hu : u = .slice none 0 0) (h1 : P.map (·.1) = s.lv) (h2 : PK 1 P) (h3 : ∀ p ∈ P, LvX B wr p.1 p.2) (hown : w'.ownsRow bx 72 1 v' s.lv.length (pc P)) (hg : wr.grownBy w' u.ownBlock) :
    KAt B bx w s l t u0 lval s.lv v' w' := by
  subst hu
  have hb : Below wr.heap.size wr w' := Below.grown (Below.refl _ _) hg (Nat.le_refl _) (fun k hk => by simp [Value.ownBlock] at hk)
  have h' := h.below hb
  exact ⟨h'.box, h'.res, ⟨P, h1, h2, fun p hp => (h3 p hp).go (Ag.of_below hb), hown⟩, h'.ns, h'.tl, h'.bel, h'.low⟩
/-- A level more. -/
theorem KAt.more {B bx p : Nat} {w wr w' : World} {s : Rk} {l : List Int} {t u0 lval u u' : Value} {lv : List (List Int)} {P : List (List Int × List Value)} (h : KAt B bx w s l t u0 lval lv u wr) (hp : lv.length = p) (h1 : P.map (·.1) = lv) (h2 : PK 1 P) (h3 : ∀ p ∈ P, LvX B wr p.1 p.2) (h4 : wr.ownsRow bx 72 1 u p (pc P))
    (hown : w'.ownsRow bx 72 1 u' (p + 1) (pc P ++ [.slice none 0 0])) (hg : wr.grownBy w' u.ownBlock) : KAt B bx w s l t u0 lval (lv ++ [[]]) u' w' := by
  have hag : Ag KN B wr w' := Ag.grown hg h4 h.low.1 KN_lv
  refine ⟨grown_block2 hg (own_block_ne h4 h.box (by decide)) h.box, grown_block2 hg (own_block_ne h4 h.res (by decide)) h.res, ⟨P ++ [([], [.slice none 0 0])], by rw [List.map_append, h1]; rfl, h2.snoc rfl, fun q hq => ?_, ?_⟩, h.ns.go hag, h.tl.go hag, Below.grown h.bel hg h.low.2 (fun k hk => (h4.lt k hk).1), ⟨h.low.1, Nat.le_trans h.low.2 hg.size⟩⟩
  · rcases List.mem_append.1 hq with h5 | h5
    · exact (h3 q h5).go hag
    · obtain rfl : q = ([], [.slice none 0 0]) := by simpa using h5
      exact ⟨_, rfl, nsX_nil⟩
  · rw [List.length_append, hp, List.length_singleton, ← pc_snoc]
    exact hown
/-- A level is read. -/
theorem KAt.level {B bx p i : Nat} {w wr : World} {s : Rk} {l a : List Int} {t u0 lval u : Value} {lv : List (List Int)} (h : KAt B bx w s l t u0 lval lv u wr) (hp : lv.length = p) (ha : lv[i]? = some a) :
    ∃ g cap ta, u = .slice (some ⟨g, 0, none⟩) p cap ∧ bx ≤ g ∧ wr.cell? ⟨g, i, none⟩ = some ta ∧ wr.frozen? ⟨g, i, none⟩ = false ∧ NsX B wr ta a := by
  obtain ⟨P, h1, h2, h3, h4⟩ := h.row
  have hi : i < p := by have := (List.getElem?_eq_some_iff.1 ha).1; omega
  rw [hp] at h4
  obtain ⟨g, cap, rfl, hg, -, -, -, -⟩ := own_some h4 (by omega)
  obtain ⟨cs, hq⟩ := pair_at h1 ha
  obtain ⟨ta, e1, e2⟩ := h3 _ (List.mem_of_getElem? hq)
  obtain ⟨hc, hf⟩ := own_el h4 h2 hq hi
  have c0 := hc 0 ta (by rw [e1]; rfl)
  have f0 := hf 0
  rw [Nat.mul_one, Nat.add_zero] at c0 f0
  exact ⟨g, cap, ta, rfl, hg, c0, f0, e2⟩
/-- A level is written. -/
theorem KAt.put {B bx p i g cap : Nat} {w wr : World} {s : Rk} {l a : List Int} {t u0 lval ta : Value} {lv : List (List Int)} (h : KAt B bx w s l t u0 lval lv (.slice (some ⟨g, 0, none⟩) p cap) wr) (hp : lv.length = p) (hi : i < p) (ha : NsX B wr ta a) :
    KAt B bx w s l t u0 lval (lv.set i a) (.slice (some ⟨g, 0, none⟩) p cap) (wr.setCell ⟨g, i, none⟩ ta) := by
  obtain ⟨P, h1, h2, h3, h4⟩ := h.row
  rw [hp] at h4
  have hPl : P.length = p := by rw [← hp, ← h1, List.length_map]
  obtain ⟨q, hq⟩ : ∃ q, P[i]? = some q := ⟨_, List.getElem?_eq_getElem (by omega)⟩
  obtain ⟨tq, e1, -⟩ := h3 _ (List.mem_of_getElem? hq)
  have hq2 : P[i]? = some (q.1, [tq]) := by rw [hq, ← e1]
  obtain ⟨hB, hlt⟩ := h4.lt g rfl
  have hgb : ∃ cur, wr.heap[g]? = some (.cells cur 72 (0, 0)) := by
    rcases h4.2 with ⟨e, -⟩ | ⟨g', cap', cur, e, -, hgg, -⟩
    · simp at e
    · simp only [Value.slice.injEq, Option.some.injEq, Addr.mk.injEq, and_true, true_and] at e
      obtain ⟨rfl, rfl⟩ := e
      exact ⟨cur, hgg⟩
  obtain ⟨cur, hgg⟩ := hgb
  have hag : Ag KN B wr (wr.setCell ⟨g, i, none⟩ ta) := Ag.set (Nat.le_trans h.low.1 hB) hgg KN_lv
  have hne : ∀ {x : Nat} {cs : Array Value}, wr.heap[x]? = some (.cells cs 141 (0, 0)) → x ≠ g := fun hx e => by
    subst e
    rw [hgg] at hx
    simp only [Option.some.injEq, Obj.cells.injEq] at hx
    exact absurd hx.2.1 (by decide)
  have hst := (h4.stored i ta).1
  have hset := pc_setG (k := 1) (a' := a) (u := ta) (j := 0) h2 hq2 (by decide)
  rw [Nat.mul_one, Nat.add_zero] at hset
  rw [hset] at hst
  refine ⟨row_setCell_other (i := i) (b' := g) ta h.box (hne h.box), row_setCell_other (i := i) (b' := g) ta h.res (hne h.res), ⟨P.set i (a, [ta]), by rw [map_set, h1], h2.set rfl i, fun p' hp' => ?_, by rw [List.length_set, hp]; exact hst⟩, h.ns.go hag, h.tl.go hag, h.bel.setCell (p := ⟨g, i, none⟩) hB _, ⟨h.low.1, by simpa using h.low.2⟩⟩
  rcases List.mem_or_eq_of_mem_set hp' with h5 | h5
  · exact (h3 p' h5).go hag
  · rw [h5]
    exact ⟨ta, rfl, ha.go hag⟩
/-- What the box holds then. -/
theorem KAt.rank {B bx : Nat} {w wr : World} {s : Rk} {l : List Int} {t u0 lval u : Value} {lv : List (List Int)} (h : KAt B bx w s l t u0 lval lv u wr) (sl : Int) : RkX B wr (.agg #[.int .i64 s.k, t, u, .int .i64 s.n, .int .i64 sl]) ⟨s.k, s.tl, lv, s.n, sl⟩ := by
  obtain ⟨P, h1, h2, h3, h4⟩ := h.row
  exact ⟨t, u, P, rfl, h.tl, h1, h2, h3, slX_own h4 (Or.inr rfl)⟩
end Go.Proofs.Ytcljeedmiobepaa.Rk
