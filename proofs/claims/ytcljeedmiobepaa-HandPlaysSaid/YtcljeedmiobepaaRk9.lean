/-
  Ranks: a rank of one's own; the walk of own.
-/
import Derived.Test.YtcljeedmiobepaaRk8
import Derived.Test.YtcljeedmiobepaaInsI64
namespace Go.Proofs.Ytcljeedmiobepaa.Rk
open Go.RowKit Go.Gh
set_option linter.unusedVariables false
theorem infoLv : (Try.prog.info? 72).map (fun i => (i.zero, i.size, i.bytes)) = some (some (.slice none 0 0), 1, 24) := by kernel_rfl
theorem elLv : Elem Try.prog 139 72 1 24 := elem_of Try.underlying139 infoLv rfl (by decide)
theorem own_ne {w : World} {B B' n n' size size' : Nat} {e e' : TypeId} {v u : Value} {xs ys : List Value} (h1 : w.ownsRow B e size v n xs) (h2 : w.ownsRow B' e' size' u n' ys) (hne : e ≠ e') : u.ownBlock = none ∨ u.ownBlock ≠ v.ownBlock := by
  rcases h2.2 with ⟨rfl, _⟩ | ⟨g, cap, cur, rfl, _, hg, _⟩
  · exact Or.inl rfl
  · exact Or.inr fun h => own_block_ne h1 hg hne h.symm
/-- A level of one's own, apart from the tail. -/
def LvO (gt : Option Nat) (B : Nat) (w : World) (l : List Int) (c : List Value) : Prop := ∃ t, c = [t] ∧ w.ownsRow B 2 1 t l.length (l.map (Value.int .i64)) ∧ (t.ownBlock = none ∨ t.ownBlock ≠ gt)
/-- Levels of one's own. -/
def Lvs (gt : Option Nat) (B : Nat) (w : World) (u : Value) (lv : List (List Int)) : Prop := ∃ P : List (List Int × List Value), P.map (·.1) = lv ∧ PK 1 P ∧ (∀ p ∈ P, LvO gt B w p.1 p.2) ∧ w.ownsRow B 72 1 u lv.length (pc P)
theorem LvO.kept {gt r : Option Nat} {B : Nat} {w w' : World} {l : List Int} {c : List Value} (h : LvO gt B w l c) (hg : w.grownBy w' r) (hr : ∀ t, c = [t] → t.ownBlock = none ∨ t.ownBlock ≠ r) : LvO gt B w' l c := by
  obtain ⟨t, rfl, h1, h2⟩ := h
  exact ⟨t, rfl, h1.kept hg (hr t rfl), h2⟩
theorem LvO.below {gt : Option Nat} {B : Nat} {w w' : World} {l : List Int} {c : List Value} (h : LvO gt B w l c) (hb : Below w.heap.size w w') : LvO gt B w' l c := by
  obtain ⟨t, rfl, h1, h2⟩ := h
  exact ⟨t, rfl, own_below h1 hb, h2⟩
theorem LvO.box {gt : Option Nat} {B bx i : Nat} {T : TypeId} {w : World} {l : List Int} {c : List Value} {x : Value} {cs : Array Value} {fr : Nat × Nat} (h : LvO gt B w l c) (hb : w.heap[bx]? = some (.cells cs T fr)) (hT : 2 ≠ T) : LvO gt B (w.setCell ⟨bx, i, none⟩ x) l c := by
  obtain ⟨t, rfl, h1, h2⟩ := h
  exact ⟨t, rfl, ownsRow_setCell_other h1 (a := ⟨bx, i, none⟩) (own_block_ne h1 hb hT) x, h2⟩
theorem Lvs.below {gt : Option Nat} {B : Nat} {w w' : World} {u : Value} {lv : List (List Int)} (h : Lvs gt B w u lv) (hb : Below w.heap.size w w') : Lvs gt B w' u lv := by
  obtain ⟨P, h1, h2, h3, h4⟩ := h
  exact ⟨P, h1, h2, fun p hp => (h3 p hp).below hb, own_below h4 hb⟩
/-- A box of another type is written. -/
theorem Lvs.box {gt : Option Nat} {B bx i : Nat} {T : TypeId} {w : World} {u x : Value} {lv : List (List Int)} {cs : Array Value} {fr : Nat × Nat} (h : Lvs gt B w u lv) (hb : w.heap[bx]? = some (.cells cs T fr)) (hT : 2 ≠ T) (hT2 : 72 ≠ T) : Lvs gt B (w.setCell ⟨bx, i, none⟩ x) u lv := by
  obtain ⟨P, h1, h2, h3, h4⟩ := h
  exact ⟨P, h1, h2, fun p hp => (h3 p hp).box hb hT, ownsRow_setCell_other h4 (a := ⟨bx, i, none⟩) (own_block_ne h4 hb hT2) x⟩
theorem Lvs.sp {gt : Option Nat} {B : Nat} {w : World} {u : Value} {lv : List (List Int)} (h : Lvs gt B w u lv) : Sp LvR 1 w u lv := by
  obtain ⟨P, h1, h2, h3, h4⟩ := h
  exact ⟨P, h1, h2, fun p hp => by
    obtain ⟨t, e1, e2, -⟩ := h3 p hp
    exact ⟨t, e1, own_sl e2⟩, own_sl h4⟩
/-- Another row of the kind is grown, that lies apart from all. -/
theorem Lvs.keptI {gt r : Option Nat} {B : Nat} {w w' : World} {u : Value} {lv : List (List Int)} (h : Lvs gt B w u lv) (hg : w.grownBy w' r) (hu : u.ownBlock = none ∨ u.ownBlock ≠ r) (hr : ∀ b, r = some b → gt = some b ∨ ∀ p c t, LvO gt B w p c → c = [t] → t.ownBlock ≠ some b) : Lvs gt B w' u lv := by
  obtain ⟨P, h1, h2, h3, h4⟩ := h
  refine ⟨P, h1, h2, fun p hp => (h3 p hp).kept hg (fun t ht => ?_), h4.kept hg hu⟩
  cases r with
  | none =>
    cases hv : t.ownBlock with
    | none => exact Or.inl rfl
    | some b => exact Or.inr (by simp)
  | some b =>
    rcases hr b rfl with e | e
    · obtain ⟨t', e1, -, e2⟩ := h3 p hp
      rw [ht] at e1
      obtain rfl : t = t' := by simpa using e1
      rw [e] at e2
      exact e2
    · exact Or.inr (e p.1 p.2 t (h3 p hp) ht)
/-- A rank of one's own. -/
def OwnRk (B : Nat) (w : World) (s : Rk) (t u : Value) : Prop := w.ownsRow B 2 1 t s.tl.length (s.tl.map (Value.int .i64)) ∧ Lvs t.ownBlock B w u s.lv
theorem OwnRk.rk {B : Nat} {w : World} {s : Rk} {t u : Value} (h : OwnRk B w s t u) : RkV w (.agg #[.int .i64 s.k, t, u, .int .i64 s.n, .int .i64 s.sl]) s := ⟨t, u, rfl, own_sl h.1, h.2.sp⟩
theorem OwnRk.below {B : Nat} {w w' : World} {s : Rk} {t u : Value} (h : OwnRk B w s t u) (hb : Below w.heap.size w w') : OwnRk B w' s t u := ⟨own_below h.1 hb, h.2.below hb⟩
theorem OwnRk.boxed {B bx i : Nat} {T : TypeId} {w : World} {s : Rk} {t u x : Value} {cs : Array Value} {fr : Nat × Nat} (h : OwnRk B w s t u) (hb : w.heap[bx]? = some (.cells cs T fr)) (hT : 2 ≠ T) (hT2 : 72 ≠ T) : OwnRk B (w.setCell ⟨bx, i, none⟩ x) s t u :=
  ⟨ownsRow_setCell_other h.1 (a := ⟨bx, i, none⟩) (own_block_ne h.1 hb hT) x, h.2.box hb hT hT2⟩
theorem OwnRk.stores5 {B bx : Nat} {w : World} {s : Rk} {t u a0 a1 a2 a3 a4 x0 x1 x2 x3 x4 : Value} (h : OwnRk B w s t u) (hb : w.heap[bx]? = some (.cells #[a0, a1, a2, a3, a4] 141 (0, 0))) :
    OwnRk B (((((w.setCell ⟨bx, 0, none⟩ x0).setCell ⟨bx, 1, none⟩ x1).setCell ⟨bx, 2, none⟩ x2).setCell ⟨bx, 3, none⟩ x3).setCell ⟨bx, 4, none⟩ x4) s t u := by
  have h1 := row_setCell 0 x0 hb
  have h2 := row_setCell 1 x1 h1
  have h3 := row_setCell 2 x2 h2
  have h4 := row_setCell 3 x3 h3
  exact ((((h.boxed hb (by decide) (by decide)).boxed h1 (by decide) (by decide)).boxed h2 (by decide) (by decide)).boxed h3 (by decide) (by decide)).boxed h4 (by decide) (by decide)
set_option maxHeartbeats 8000000 in
set_option maxRecDepth 100000 in
theorem own_any (v : Value) (s : Rk) (w : World) (hv : RkV w v s) (hw : wellR s) :
    Calls Try.prog 150 #[v] w fun e w' => ∃ t u, e = .returned (.agg #[.int .i64 s.k, t, u, .int .i64 s.n, .int .i64 s.sl]) ∧ OwnRk w.heap.size w' s t u ∧ Below w.heap.size w w' := by
  obtain ⟨t, u, rfl, ht, hu⟩ := hv
  obtain ⟨ao, c, rfl, hnc, hc, -⟩ := ht.shape
  obtain ⟨bo, d, rfl, hod, hd⟩ := hu.shape
  have hwp := well_parts hw
  have h64 : ∀ l ∈ s.lv, l.length ≤ 64 := fun l hl => by have := (hwp.2.2.2.2.2 l hl).1; omega
  have hL20 := hwp.2.2.2.1
  obtain ⟨L, hL⟩ : ∃ n, s.lv.length = n := ⟨_, rfl⟩
  obtain ⟨n, hn⟩ : ∃ n, s.tl.length = n := ⟨_, rfl⟩
  have hn64 : n ≤ 64 := by omega
  have HT := Lib.hid ht
  have HU := Lib.hid hu
  have HL := Lib.hid hL
  have HN := Lib.hid hn
  have H64 := Lib.hid h64
  rw [hn] at HT hnc ⊢
  rw [hL] at HU hod hL20 ⊢
  obtain ⟨wA, hwA⟩ : ∃ wA, wA = (w.alloc (Obj.cells #[.int .i64 s.k, .slice ao n c, .slice bo L d, .int .i64 s.n, .int .i64 s.sl] 141)).alloc (Obj.cells #[.int .i64 0, .slice none 0 0, .slice none 0 0, .int .i64 0, .int .i64 0] 141) := ⟨_, rfl⟩
  have hb1 : wA.heap[w.heap.size]? = some (.cells #[.int .i64 s.k, .slice ao n c, .slice bo L d, .int .i64 s.n, .int .i64 s.sl] 141 (0, 0)) := by rw [hwA]; exact two_first w _ _
  have hb2 : wA.heap[w.heap.size + 1]? = some (.cells #[.int .i64 0, .slice none 0 0, .slice none 0 0, .int .i64 0, .int .i64 0] 141 (0, 0)) := by rw [hwA]; exact two_second w _ _
  have hbA : Below w.heap.size w wA := by rw [hwA]; exact ((Below.refl _ _).alloc (Nat.le_refl _) _).alloc (by simp) _
  have HW := Lib.hid hwA
  have HBA := Lib.hid hbA
  have hl1 : w.heap.size < wA.heap.size := (Array.getElem?_eq_some_iff.1 hb1).1
  have hl2 : w.heap.size + 1 < wA.heap.size := (Array.getElem?_eq_some_iff.1 hb2).1
  have HB1 := Lib.hid hb1
  have HB2 := Lib.hid hb2
  clear hL hn ht hu hwA hwp h64 hbA hb1 hb2 hw
  go_enter Try.func150, Try.ntmps150
  go_upto_region 1 with (fail)
  rw [← HW.out]
  obtain ⟨bx, hbx⟩ : ∃ bx, w.heap.size = bx := ⟨_, rfl⟩
  have HBX := Lib.hid hbx
  have y1 := HB1.out
  have y2 := HB2.out
  rw [hbx] at y1 y2 hl1 hl2 ⊢
  have hlow : w.heap.size ≤ bx := Nat.le_of_eq hbx
  clear hbx
  obtain ⟨⟨d0, d1, d2, d3, d4⟩, -⟩ := bx5 y1
  go_wp2_with fail
  refine (clone64_any _ s.tl _ (HT.out.below HBA.out) (by rw [HN.out]; omega)).mono ?_
  rw [HN.out]
  rintro e w2 ⟨v2, rfl, hown2, hb2⟩
  obtain ⟨ta, tc, rfl, htc, -, -⟩ := own_shape hown2
  have Y1 := (hb2.block _ hl1).trans y1
  have Y2 := (hb2.block _ hl2).trans y2
  have hszA := HBA.out.size
  have hown3 := ownsRow_setCell_other hown2 (a := ⟨bx, 1, none⟩) (own_block_ne hown2 Y1 (by decide)) (.slice ta n tc)
  have Z1 := row_setCell 1 (.slice ta n tc) Y1
  have Z2 := row_setCell_other (i := 1) (b' := bx) (.slice ta n tc) Y2 (by omega)
  have BW3 := (HBA.out.trans (hb2.mono HBA.out.size)).setCell (p := ⟨bx, 1, none⟩) hlow (.slice ta n tc)
  have HO3 := Lib.hid (own_mono hown3 hszA)
  have HZ1 := Lib.hid Z1
  have HZ2 := Lib.hid Z2
  have HBW3 := Lib.hid BW3
  clear d0 d1 d2 d3 d4 y1 y2 hown2 hown3 Z1 Z2 BW3 hb2 Y2
  obtain ⟨⟨d0, d1, d2, d3, d4⟩, ⟨f0, f1, f2, f3, f4⟩⟩ := bx5 Y1
  clear Y1
  go_upto_region 2 with (fail)
  obtain ⟨w3, hw3⟩ : ∃ x, x = w2.setCell ⟨bx, 1, none⟩ (.slice ta n tc) := ⟨_, rfl⟩
  have X1 : w3.heap[bx]? = some (.cells #[.int .i64 s.k, .slice ta n tc, .slice bo L d, .int .i64 s.n, .int .i64 s.sl] 141 (0, 0)) := by rw [hw3]; exact HZ1.out
  have X2 : w3.heap[bx + 1]? = some (.cells #[.int .i64 0, .slice none 0 0, .slice none 0 0, .int .i64 0, .int .i64 0] 141 (0, 0)) := by rw [hw3]; exact HZ2.out
  have BW : Hid (Below w.heap.size w w3) := Lib.hid (by rw [hw3]; exact HBW3.out)
  have HO : Hid (w3.ownsRow w.heap.size 2 1 (.slice ta n tc) n (s.tl.map (Value.int .i64))) := Lib.hid (by rw [hw3, HBX.out] at *; exact HO3.out)
  rw [← hw3]
  clear hw3 HO3 HZ1 HZ2 HBW3 d0 d1 d2 d3 d4 f0 f1 f2 f3 f4
  have HX1 := Lib.hid X1
  have HX2 := Lib.hid X2
  obtain ⟨⟨d0, d1, d2, d3, d4⟩, -⟩ := bx5 X1
  clear X1 X2
  go_wp2_with fail
  go_loopw [3, 13] (fun r i wr => ∃ j : Nat, j ≤ L ∧ i = .int .i64 j ∧ Hid (wr.ownsRow w.heap.size 2 1 (.slice ta n tc) n (s.tl.map (Value.int .i64))) ∧ Hid (Lvs (Value.slice ta n tc).ownBlock w.heap.size wr r (s.lv.take j)) ∧ Hid (wr.heap[bx]? = some (.cells #[.int .i64 s.k, .slice ta n tc, .slice bo L d, .int .i64 s.n, .int .i64 s.sl] 141 (0, 0)) ∧ wr.heap[bx + 1]? = some (.cells #[.int .i64 0, .slice none 0 0, .slice none 0 0, .int .i64 0, .int .i64 0] 141 (0, 0))) ∧ Below w.heap.size w wr) (fun _ i _ => L - (intOf i).toNat)
  case atStart => exact ⟨0, Nat.zero_le _, rfl, HO, Lib.hid ⟨[], rfl, PK.nil, fun p hp => by simp at hp, World.ownsRow_nil _ _ _ _⟩, Lib.hid ⟨HX1.out, HX2.out⟩, BW.out⟩
  case round =>
    obtain ⟨j, hj, rfl, HOt, HLV, HBX2, hbr⟩ := hrel
    have hjl : (s.lv.take j).length = j := by rw [List.length_take, HL.out]; omega
    obtain ⟨P, hP1, hP2, hP3, hP4⟩ := HLV.out
    rw [hjl] at hP4
    obtain ⟨ro, rc, rfl, hrc, -, -⟩ := own_shape hP4
    clear d0 d1 d2 d3 d4
    by_cases hlt : j < L
    · obtain ⟨l, hl⟩ : ∃ l, s.lv[j]? = some l := ⟨_, List.getElem?_eq_getElem (by rw [HL.out]; exact hlt)⟩
      obtain ⟨g, off, cs, rfl, ⟨t1, rfl, hns⟩, _, hck⟩ := (HU.out.below lvR_mono hbr).get hl
      have c0 := hck 0 _ rfl
      rw [Nat.add_zero, Nat.mul_one] at c0
      obtain ⟨lo, lc, rfl, -, -, -⟩ := hns.shape
      have hl64 := H64.out l (List.mem_of_getElem? hl)
      have HTK : Hid (s.lv.take (j + 1) = s.lv.take j ++ [l]) := Lib.hid (by
        obtain ⟨h1, h2⟩ := List.getElem?_eq_some_iff.1 hl
        rw [List.take_succ_eq_append_getElem h1, h2])
      have HNS := Lib.hid hns
      have HPP := Lib.hid (And.intro hP1 (And.intro hP2 hP3))
      have HP4 := Lib.hid hP4
      have HJL := Lib.hid hjl
      clear hck hl hns hP1 hP2 hP3 hP4 hjl
      go_wp2_with fail
      refine (clone64_any _ l _ HNS.out (by omega)).mono ?_
      rintro e w5 ⟨v5, rfl, hown5, hb5⟩
      obtain ⟨q, hq⟩ : ∃ q, l.length = q := ⟨_, rfl⟩
      have HQ := Lib.hid hq
      rw [hq] at hown5
      obtain ⟨xo, xc, rfl, hxc, -, -⟩ := own_shape hown5
      have hbw5 := hbr.trans (hb5.mono hbr.size)
      have hrow5 := own_below HP4.out hb5
      have HOt5 := Lib.hid (own_below HOt.out hb5)
      have HP5 : Hid (∀ p ∈ P, LvO (Value.slice ta n tc).ownBlock w.heap.size w5 p.1 p.2) := Lib.hid (fun p hp => (HPP.out.2.2 p hp).below hb5)
      have HNEW : Hid (LvO (Value.slice ta n tc).ownBlock w.heap.size w5 l [.slice xo q xc]) := Lib.hid ⟨_, rfl, by rw [HQ.out]; exact own_mono hown5 hbr.size, by
        cases hxv : (Value.slice xo q xc).ownBlock with
        | none => exact Or.inl rfl
        | some b =>
          refine Or.inr fun e => ?_
          have h1 := (hown5.lt b hxv).1
          have h2 := (HOt.out.lt b e.symm).2
          omega⟩
      have HBX5 : Hid (w5.heap[bx]? = some (.cells #[.int .i64 s.k, .slice ta n tc, .slice (some ⟨g, off, none⟩) L d, .int .i64 s.n, .int .i64 s.sl] 141 (0, 0)) ∧ w5.heap[bx + 1]? = some (.cells #[.int .i64 0, .slice none 0 0, .slice none 0 0, .int .i64 0, .int .i64 0] 141 (0, 0))) :=
        Lib.hid ⟨(hb5.block _ (Array.getElem?_eq_some_iff.1 HBX2.out.1).1).trans HBX2.out.1, (hb5.block _ (Array.getElem?_eq_some_iff.1 HBX2.out.2).1).trans HBX2.out.2⟩
      clear hown5 hb5 hq
      go_wp2_with (at_builtin; refine append1 [.slice xo q xc] elLv rfl _ _ rfl hrow5 hbw5 hbw5.size rfl rfl rfl (by intro u hu; simp at hu; rw [hu]; rfl) ?c4 ?c5 ?_)
      case c4 => omega
      case c5 => omega
      intro v7 w7 hown7 hbel7 hgr7
      have hne1 := own_ne hrow5 HOt5.out (by decide)
      have HOt7 := Lib.hid (HOt5.out.kept hgr7 hne1)
      have hkeep : ∀ p c, LvO (Value.slice ta n tc).ownBlock w.heap.size w5 p c → LvO (Value.slice ta n tc).ownBlock w.heap.size w7 p c := fun p c h => h.kept hgr7 (fun t ht => by
        obtain ⟨t', e1, e2, -⟩ := h
        rw [ht] at e1
        obtain rfl : t = t' := by simpa using e1
        exact own_ne hrow5 e2 (by decide))
      have HLV7 : Hid (Lvs (Value.slice ta n tc).ownBlock w.heap.size w7 v7 (s.lv.take (j + 1))) := Lib.hid (by
        rw [HTK.out]
        refine ⟨P ++ [(l, [.slice xo q xc])], by rw [List.map_append, HPP.out.1]; rfl, HPP.out.2.1.snoc rfl, fun p hp => ?_, ?_⟩
        · rcases List.mem_append.1 hp with h | h
          · exact hkeep _ _ (HP5.out p h)
          · obtain rfl : p = (l, [.slice xo q xc]) := by simpa using h
            exact hkeep _ _ HNEW.out
        · rw [List.length_append, HJL.out, List.length_singleton, ← pc_snoc]
          simpa using hown7)
      have HBX7 : Hid (w7.heap[bx]? = some (.cells #[.int .i64 s.k, .slice ta n tc, .slice (some ⟨g, off, none⟩) L d, .int .i64 s.n, .int .i64 s.sl] 141 (0, 0)) ∧ w7.heap[bx + 1]? = some (.cells #[.int .i64 0, .slice none 0 0, .slice none 0 0, .int .i64 0, .int .i64 0] 141 (0, 0))) :=
        Lib.hid ⟨grown_block2 hgr7 (own_block_ne hrow5 HBX5.out.1 (by decide)) HBX5.out.1, grown_block2 hgr7 (own_block_ne hrow5 HBX5.out.2 (by decide)) HBX5.out.2⟩
      clear hown7 hgr7 hrow5 hne1 hkeep
      go_wp2_with fail
      go_roundw
      case rel => exact ⟨j + 1, by omega, by go_num, HOt7, HLV7, HBX7, hbel7⟩
      case measure => simp [intOf]; omega
    · have hjL : j = L := by omega
      subst hjL
      have hlv := HLV.out
      rw [List.take_of_length_le (by rw [HL.out]; exact Nat.le_refl _)] at hlv
      have hor : OwnRk w.heap.size wr s (.slice ta n tc) (.slice ro j rc) := ⟨by rw [HN.out]; exact HOt.out, hlv⟩
      obtain ⟨g1, g2⟩ := HBX2.out
      have hor2 := hor.boxed (i := 2) (x := .slice ro j rc) g1 (by decide) (by decide)
      have Z1 := Lib.hid (row_setCell 2 (.slice ro j rc) g1)
      have Z2 := Lib.hid (row_setCell_other (i := 2) (b' := bx) (.slice ro j rc) g2 (by omega))
      have HOR := Lib.hid hor2
      have HBr := Lib.hid (hbr.setCell (p := ⟨bx, 2, none⟩) hlow (.slice ro j rc))
      obtain ⟨⟨d0, d1, d2, d3, d4⟩, ⟨f0, f1, f2, f3, f4⟩⟩ := bx5 g1
      clear hP1 hP2 hP3 hP4 hlv hor hor2 g1 g2
      go_upto_region 9 with (fail)
      obtain ⟨w8, hw8⟩ : ∃ x, x = wr.setCell ⟨bx, 2, none⟩ (.slice ro j rc) := ⟨_, rfl⟩
      have X1 : w8.heap[bx]? = some (.cells #[.int .i64 s.k, .slice ta n tc, .slice ro j rc, .int .i64 s.n, .int .i64 s.sl] 141 (0, 0)) := by rw [hw8]; exact Z1.out
      have X2 : w8.heap[bx + 1]? = some (.cells #[.int .i64 0, .slice none 0 0, .slice none 0 0, .int .i64 0, .int .i64 0] 141 (0, 0)) := by rw [hw8]; exact Z2.out
      have hor : OwnRk w.heap.size w8 s (.slice ta n tc) (.slice ro j rc) := by rw [hw8]; exact HOR.out
      have hb8 : Below w.heap.size w w8 := by rw [hw8]; exact HBr.out
      rw [← hw8]
      clear hw8 Z1 Z2 HOR HBr d0 d1 d2 d3 d4 f0 f1 f2 f3 f4
      obtain ⟨⟨d0, d1, d2, d3, d4⟩, -⟩ := bx5 X1
      obtain ⟨⟨r0, r1, r2, r3, r4⟩, ⟨h0, h1, h2, h3, h4⟩⟩ := bx5 X2
      have hst := bx5_store (.int .i64 s.k) (.slice ta n tc) (.slice ro j rc) (.int .i64 s.n) (.int .i64 s.sl) X2
      obtain ⟨⟨s0, s1, s2, s3, s4⟩, -⟩ := bx5 hst
      have HBF := Lib.hid (bx5_below (.int .i64 s.k) (.slice ta n tc) (.slice ro j rc) (.int .i64 s.n) (.int .i64 s.sl) (show w.heap.size ≤ bx + 1 by omega) hb8)
      have HOF := Lib.hid (hor.stores5 (x0 := .int .i64 s.k) (x1 := .slice ta n tc) (x2 := .slice ro j rc) (x3 := .int .i64 s.n) (x4 := .int .i64 s.sl) X2)
      clear hst X1 X2 hor hb8
      go_wp2_with fail
      refine bodyPost_ret (v := .agg #[.int .i64 s.k, .slice ta n tc, .slice ro j rc, .int .i64 s.n, .int .i64 s.sl]) (by simp [results, Try.results150, go_sem, s0, s1, s2, s3, s4]) rfl ?_
      refine ⟨_, _, rfl, ?_, HBF.out⟩
      first | exact HOF.out | (rw [HBX.out]; exact HOF.out) | (rw [← HBX.out]; exact HOF.out)
end Go.Proofs.Ytcljeedmiobepaa.Rk
