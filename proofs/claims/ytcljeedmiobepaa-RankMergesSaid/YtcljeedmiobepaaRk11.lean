/-
  Ranks: the walk of carry, to its end.
-/
import Derived.Test.YtcljeedmiobepaaRk10
namespace Go.Proofs.Ytcljeedmiobepaa.Rk
open Go.RowKit Go.Gh
set_option linter.unusedVariables false
theorem pow30 {i : Nat} (h : i ≤ 30) : 1 ≤ (2 : Int) ^ i ∧ (2 : Int) ^ i ≤ 1073741824 := by
  have h1 : (2 : Nat) ^ i ≤ 2 ^ 30 := Nat.pow_le_pow_right (by decide) h
  have h2 : 1 ≤ (2 : Nat) ^ i := Nat.one_le_two_pow
  have h3 : ((2 ^ i : Nat) : Int) = (2 : Int) ^ i := by push_cast; rfl
  omega
/-- The level goes into the list that is sorted; its place is emptied; the slack grows. -/
theorem CAt.next {w : World} {B bx L lev g cap : Nat} {K N S sl sl2 : Int} {tl l a ss : List Int} {t u0 lval v1 : Value} {T : List (List Int) × Int} {lv : List (List Int)} {wr w2 : World} (h : CAt w B bx K N tl t u0 T L S lv sl l lev lval (.slice (some ⟨g, 0, none⟩) L cap) wr) (hb : Below wr.heap.size wr w2)
    (ha : lv[lev]? = some a) (ha0 : ¬ a.length = 0) (hss : ss = (a ++ l).mergeSort fun x y => decide (x ≤ y)) (hv1 : w2.ownsRow wr.heap.size 2 1 v1 (halfS ss).length ((halfS ss).map (Value.int .i64))) (hsl : sl2 = sl + 2 ^ lev) :
    CAt w B bx K N tl t u0 T L S (lv.set lev []) sl2 (halfS ss) (lev + 1) v1 (.slice (some ⟨g, 0, none⟩) L cap) ((w2.setCell ⟨g, lev, none⟩ (.slice none 0 0)).setCell ⟨bx, 4, none⟩ (.int .i64 sl2)) := by
  have h2 := h.below hb
  have hil : lev < L := by have := (List.getElem?_eq_some_iff.1 ha).1; have := h.lvl; omega
  obtain ⟨P, e1, e2, e3, e4⟩ := h2.own.2
  have hne : (Value.slice (some ⟨g, 0, none⟩) L cap).ownBlock ≠ some bx := own_block_ne e4 h2.box (by decide)
  have hgb : bx ≠ g := fun e => hne (by rw [← e]; rfl)
  have hB2 := (e4.lt g rfl).1
  have hbox3 := row_setCell_other (i := lev) (b' := g) (.slice none 0 0) h2.box hgb
  have hlvs := lvs_set h2.own.2 h2.lvl (a := []) (ta := .slice none 0 0) ⟨_, rfl, World.ownsRow_nil _ _ _ _, Or.inl rfl⟩ hil
  have htn : ∀ {m : Nat} {B' : Nat} {v : Value} {xs : List Value}, w2.ownsRow B' 2 1 v m xs → (w2.setCell ⟨g, lev, none⟩ (.slice none 0 0)).ownsRow B' 2 1 v m xs := fun hx => ownsRow_setCell_other hx (a := ⟨g, lev, none⟩) (fun e => by
    rcases own_ne e4 hx (by decide) with h5 | h5
    · rw [h5] at e; simp at e
    · exact h5 (by rw [e]; rfl)) _
  have hor : OwnRk B (w2.setCell ⟨g, lev, none⟩ (.slice none 0 0)) ⟨K, tl, lv.set lev [], N, sl2⟩ t (.slice (some ⟨g, 0, none⟩) L cap) := ⟨htn h2.own.1, hlvs⟩
  have hbox4 := row_setCell 4 (.int .i64 sl2) hbox3
  have hv3 := htn (own_mono hv1 h.low.2)
  have hv4 := ownsRow_setCell_other hv3 (a := ⟨bx, 4, none⟩) (own_block_ne hv3 hbox3 (by decide)) (.int .i64 sl2)
  have hlen : (halfS ss).length = (a.length + l.length) / 2 := by
    unfold halfS
    rw [half_len _ _ (Nat.le_refl _), hss, List.length_mergeSort, List.length_append]
  refine ⟨by simpa using hbox4, hor.boxed hbox3 (by decide) (by decide), hv4, ?_, ?_, (h2.fp.row rfl).cell, (h2.bel.setCell (p := ⟨g, lev, none⟩) hB2 _).setCell (p := ⟨bx, 4, none⟩) h.low.1 _, ⟨h.low.1, by simpa using h2.low.2⟩, ⟨fun x hx => ?_, ?_⟩, by rw [List.length_set]; exact h.lvl, ?_⟩
  · cases hv : v1.ownBlock with
    | none => exact Or.inl rfl
    | some b =>
      refine Or.inr fun e => ?_
      have h5 := (hv1.lt b hv).1
      have h6 := (h.own.1.lt b e.symm).2
      omega
  · rw [← h.tgt, carryG_on ha ha0, hss, hsl]
  · rcases List.mem_or_eq_of_mem_set hx with h5 | h5
    · exact h.lens.1 x h5
    · rw [h5]; exact Nat.zero_le _
  · have := h.lens.1 a (List.mem_of_getElem? ha)
    have := h.lens.2
    omega
  · have h5 := h.slk
    have h6 : (0 : Int) < 2 ^ lev := Int.pow_pos (by decide)
    rw [hsl, Int.pow_succ]
    omega
/-- At the end: the place is made, the list put there. -/
structure EAt (w : World) (B bx : Nat) (K N sl : Int) (tl : List Int) (t u0 : Value) (T : List (List Int) × Int) (l : List Int) (lev : Nat) (lv : List (List Int)) (lval u : Value) (wr : World) : Prop where
  box : wr.heap[bx]? = some (.cells #[.int .i64 K, t, u, .int .i64 N, .int .i64 sl] 141 (0, 0))
  own : OwnRk B wr ⟨K, tl, lv, N, sl⟩ t u
  lrow : wr.ownsRow B 2 1 lval l.length (l.map (Value.int .i64))
  lap : lval.ownBlock = none ∨ lval.ownBlock ≠ t.ownBlock
  tgt : ((pad lv (lev + 1)).set lev l, sl) = T
  fp : Fp w wr bx u0 u
  bel : Below B w wr
  low : B ≤ bx ∧ B ≤ wr.heap.size
  len : lv.length ≤ 31
theorem pad_same {lv : List (List Int)} {n : Nat} (h : n ≤ lv.length) : pad lv n = lv := by
  unfold pad
  rw [Nat.sub_eq_zero_of_le h]
  simp
theorem pad_more {lv : List (List Int)} {n : Nat} (h : lv.length < n) : pad (lv ++ [[]]) n = pad lv n := by
  unfold pad
  rw [List.length_append, List.length_singleton, List.append_assoc]
  congr 1
  rw [show n - lv.length = (n - (lv.length + 1)) + 1 by omega, List.replicate_succ]
  rfl
theorem CAt.out {w : World} {B bx L lev : Nat} {K N S sl : Int} {tl l : List Int} {t u0 lval u : Value} {T : List (List Int) × Int} {lv : List (List Int)} {wr : World} (h : CAt w B bx K N tl t u0 T L S lv sl l lev lval u wr) (hL : L ≤ 30) (he : ¬ (lev < L ∧ ¬ (lv.getD lev []).length = 0)) : EAt w B bx K N sl tl t u0 T l lev lv lval u wr := by
  refine ⟨h.box, h.own, h.lrow, h.lap, ?_, h.fp, h.bel, h.low, by rw [h.lvl]; omega⟩
  rw [← h.tgt]
  rcases Nat.lt_or_ge lev L with hlt | hge
  · obtain ⟨a, ha⟩ : ∃ a, lv[lev]? = some a := ⟨_, List.getElem?_eq_getElem (by rw [h.lvl]; exact hlt)⟩
    have ha0 : a.length = 0 := by
      rcases Nat.eq_zero_or_pos a.length with h0 | h0
      · exact h0
      · exact absurd ⟨hlt, by rw [List.getD_eq_getElem?_getD, ha]; show ¬ a.length = 0; omega⟩ he
    rw [carryG_put ha ha0, pad_same (by rw [h.lvl]; exact hlt)]
  · rw [carryG_out (by rw [h.lvl]; exact hge)]
theorem EAt.below {w : World} {B bx lev : Nat} {K N sl : Int} {tl l : List Int} {t u0 lval u : Value} {T : List (List Int) × Int} {lv : List (List Int)} {wr wx : World} (h : EAt w B bx K N sl tl t u0 T l lev lv lval u wr) (hb : Below wr.heap.size wr wx) : EAt w B bx K N sl tl t u0 T l lev lv lval u wx :=
  ⟨(hb.block _ (Array.getElem?_eq_some_iff.1 h.box).1).trans h.box, h.own.below hb, own_below h.lrow hb, h.lap, h.tgt, h.fp.below hb, h.bel.trans (hb.mono h.low.2), ⟨h.low.1, Nat.le_trans h.low.2 hb.size⟩, h.len⟩
/-- A place more. -/
theorem EAt.more {w : World} {B bx lev g cap p : Nat} {K N sl : Int} {tl l : List Int} {t u0 lval u : Value} {T : List (List Int) × Int} {lv : List (List Int)} {wr w' : World} {P : List (List Int × List Value)} (h : EAt w B bx K N sl tl t u0 T l lev lv lval u wr) (hlt : lv.length ≤ lev) (hlev : lev ≤ 30) (hp : lv.length = p)
    (e1 : P.map (·.1) = lv) (e2 : PK 1 P) (e3 : ∀ q ∈ P, LvO t.ownBlock B wr q.1 q.2) (hx : wr.ownsRow B 72 1 u p (pc P)) (hown : w'.ownsRow B 72 1 (.slice (some ⟨g, 0, none⟩) (p + 1) cap) (p + 1) (pc P ++ [.slice none 0 0])) (hg : wr.grownBy w' u.ownBlock) (hat : u.ownBlock = some g ∨ g = wr.heap.size) :
    EAt w B bx K N sl tl t u0 T l lev (lv ++ [[]]) lval (.slice (some ⟨g, 0, none⟩) (p + 1) cap) (w'.setCell ⟨bx, 2, none⟩ (.slice (some ⟨g, 0, none⟩) (p + 1) cap)) ∧ w'.heap[bx]? = some (.cells #[.int .i64 K, t, u, .int .i64 N, .int .i64 sl] 141 (0, 0)) := by
  have hbox := grown_block2 hg (own_block_ne hx h.box (by decide)) h.box
  have ht := h.own.1.kept hg (own_ne hx h.own.1 (by decide))
  have hlr := h.lrow.kept hg (own_ne hx h.lrow (by decide))
  have hlv : Lvs t.ownBlock B w' (.slice (some ⟨g, 0, none⟩) (p + 1) cap) (lv ++ [[]]) := by
    refine ⟨P ++ [([], [.slice none 0 0])], by rw [List.map_append, e1]; rfl, e2.snoc rfl, fun q hq => ?_, ?_⟩
    · rcases List.mem_append.1 hq with h5 | h5
      · exact (e3 q h5).kept hg (fun t' ht' => by
          obtain ⟨t2, i1, i2, -⟩ := e3 q h5
          rw [ht'] at i1
          obtain rfl : t' = t2 := by simpa using i1
          exact own_ne hx i2 (by decide))
      · obtain rfl : q = ([], [.slice none 0 0]) := by simpa using h5
        exact ⟨_, rfl, World.ownsRow_nil _ _ _ _, Or.inl rfl⟩
    · rw [List.length_append, hp, List.length_singleton, ← pc_snoc]
      exact hown
  have hor : OwnRk B w' ⟨K, tl, lv ++ [[]], N, sl⟩ t (.slice (some ⟨g, 0, none⟩) (p + 1) cap) := ⟨ht, hlv⟩
  have hb2 := row_setCell 2 (.slice (some ⟨g, 0, none⟩) (p + 1) cap) hbox
  have hbel : Below B w w' := Below.grown h.bel hg h.low.2 (fun k hk => (hx.lt k hk).1)
  refine ⟨⟨by simpa using hb2, hor.boxed hbox (by decide) (by decide), ownsRow_setCell_other hlr (a := ⟨bx, 2, none⟩) (own_block_ne hlr hbox (by decide)) _, h.lap, ?_, (h.fp.grown hg rfl (hat.elim Or.inl (fun e => Or.inr (Nat.le_of_eq e.symm)))).cell, hbel.setCell (p := ⟨bx, 2, none⟩) h.low.1 _, ⟨h.low.1, ?_⟩, ?_⟩, hbox⟩
  · rw [← h.tgt, pad_more (by omega)]
  · have := hg.size
    have := h.low.2
    simp
    omega
  · rw [List.length_append, List.length_singleton]
    omega
set_option maxHeartbeats 8000000 in
set_option maxRecDepth 100000 in
theorem carry_any (w : World) (B bx : Nat) (K N S sl : Int) (tl l : List Int) (lv : List (List Int)) (lev : Nat) (t u lval : Value)
    (h : CAt w B bx K N tl t u (carryG lv sl l lev) lv.length S lv sl l lev lval u w) (hL : lv.length ≤ 30) (hlev : lev ≤ 30) (hS : 0 ≤ S ∧ S ≤ 4611686018427387904) :
    Calls Try.prog 156 #[.pointer (some ⟨bx, 0, none⟩), lval, .int .i64 lev] w fun e w' => e = .returned (.tuple #[]) ∧ ∃ u', w'.heap[bx]? = some (.cells #[.int .i64 K, t, u', .int .i64 N, .int .i64 (carryG lv sl l lev).2] 141 (0, 0)) ∧ OwnRk B w' ⟨K, tl, (carryG lv sl l lev).1, N, (carryG lv sl l lev).2⟩ t u' ∧ Fp w w' bx u u' ∧ Below B w w' := by
  obtain ⟨T, hT⟩ : ∃ T, carryG lv sl l lev = T := ⟨_, rfl⟩
  obtain ⟨L, hLL⟩ : ∃ L, lv.length = L := ⟨_, rfl⟩
  rw [hT, hLL] at h
  rw [hT]
  rw [hLL] at hL
  have HC0 := Lib.hid h
  obtain ⟨lo, lc, rfl, hlc, -, -⟩ := own_shape h.lrow
  clear hT hLL h
  go_enter Try.func156, Try.ntmps156
  go_wp2_with fail
  go_loopw [1, 2] (fun x y wr => ∃ (lev1 : Nat) (lv1 : List (List Int)) (sl1 : Int) (l1 : List Int) (u1 : Value), lev1 ≤ 30 ∧ y = .int .i64 lev1 ∧ Hid (CAt w B bx K N tl t u T L S lv1 sl1 l1 lev1 x u1 wr)) (fun _ y _ => 40 - (intOf y).toNat)
  case atStart => exact ⟨lev, lv, sl, l, u, hlev, rfl, HC0⟩
  case round =>
    obtain ⟨lev1, lv1, sl1, l1, u1, hlev1, rfl, HC⟩ := hrel
    obtain ⟨xo, xc, rfl, hxc, -, -⟩ := own_shape HC.out.lrow
    obtain ⟨P, e1, e2, e3, e4⟩ := HC.out.own.2
    rw [show (⟨K, tl, lv1, N, sl1⟩ : Rk).lv.length = L from HC.out.lvl] at e4
    obtain ⟨uo, uc, rfl, huc, -, -⟩ := own_shape e4
    obtain ⟨⟨d0, d1, d2, d3, d4⟩, -⟩ := bx5 HC.out.box
    obtain ⟨G, hG⟩ : ∃ G : Bool, decide (lev1 < L ∧ ¬ (lv1.getD lev1 []).length = 0) = G := ⟨_, rfl⟩
    have HG := Lib.hid hG
    have hlvl := HC.out.lvl
    clear hG e1 e2 e3 e4
    go_upto_region 0 with (fail)
    go_cut [25] (fun t wx => t = .bool G ∧ wx = wr)
    case first =>
      by_cases hlv : lev1 < L
      · obtain ⟨a, ha⟩ : ∃ a, lv1[lev1]? = some a := ⟨_, List.getElem?_eq_getElem (by omega)⟩
        obtain ⟨g, cap, ta, e1, c0, -, hta⟩ := HC.out.level ha
        simp only [Value.slice.injEq] at e1
        obtain ⟨rfl, -, rfl⟩ := e1
        obtain ⟨ao, ac, rfl, -, -, -⟩ := own_shape hta
        have hgd : lv1.getD lev1 [] = a := by rw [List.getD_eq_getElem?_getD, ha]; rfl
        by_cases ha0 : a.length = 0
        · obtain rfl : G = false := by rw [← HG.out]; exact decide_eq_false (fun h => h.2 (by rw [hgd]; exact ha0))
          clear ha hgd hta
          go_wp2_with fail
          go_meet
          exact ⟨by first | rfl | (simp [ha0]), rfl⟩
        · obtain rfl : G = true := by rw [← HG.out]; exact decide_eq_true ⟨hlv, by rw [hgd]; exact ha0⟩
          have hpos : 0 < a.length := by omega
          clear ha hgd hta
          go_wp2_with fail
          go_meet
          exact ⟨by first | rfl | (simp [hpos]), rfl⟩
      · obtain rfl : G = false := by rw [← HG.out]; exact decide_eq_false (fun h => hlv h.1)
        go_wp2_with fail
        go_meet
        exact ⟨rfl, rfl⟩
    obtain ⟨rfl, rfl⟩ := hcut
    obtain ⟨wq, rfl⟩ : ∃ x, x = wc := ⟨_, rfl⟩
    cases G with
    | true =>
      have hgg := of_decide_eq_true HG.out
      have hlv := hgg.1
      obtain ⟨a, ha⟩ : ∃ a, lv1[lev1]? = some a := ⟨_, List.getElem?_eq_getElem (by omega)⟩
      have ha0 : ¬ a.length = 0 := by
        have := hgg.2
        rwa [List.getD_eq_getElem?_getD, ha] at this
      obtain ⟨g, cap, ta, e1, c0, -, hta⟩ := HC.out.level ha
      simp only [Value.slice.injEq] at e1
      obtain ⟨rfl, -, rfl⟩ := e1
      have hal := HC.out.lens.1 a (List.mem_of_getElem? ha)
      have hll := HC.out.lens.2
      have hfl : [a, l1].flatten = a ++ l1 := by simp
      have hbld := own_build (B := wq.heap.size) (e := 72) (size := 1) (n := 2) wq [ta, .slice xo l1.length xc] (Nat.le_refl _) rfl (by decide)
      have HSP : Hid (Sp LvR 1 (wq.alloc (.cells [ta, .slice xo l1.length xc].toArray 72)) (.slice (some ⟨wq.heap.size, 0, none⟩) 2 2) [a, l1]) := Lib.hid ⟨[(a, [ta]), (l1, [.slice xo l1.length xc])], rfl, (by intro p hp; simp at hp; rcases hp with rfl | rfl <;> rfl), (by
        intro p hp
        simp at hp
        rcases hp with rfl | rfl
        · exact ⟨ta, rfl, own_sl (hta.alloc _)⟩
        · exact ⟨_, rfl, own_sl (HC.out.lrow.alloc _)⟩), own_sl hbld⟩
      obtain ⟨ao, ac, rfl, -, -, -⟩ := own_shape hta
      have HA := Lib.hid ha
      have hpos : 0 < a.length := by omega
      have hBal : Below wq.heap.size wq (wq.alloc (.cells [.slice ao a.length ac, .slice xo l1.length xc].toArray 72)) := (Below.refl _ _).alloc (Nat.le_refl _) _
      have HBAL := Lib.hid hBal
      clear hbld hta ha hBal
      go_wp2_with fail
      refine (concat_any _ [a, l1] _ HSP.out (by intro x hx; simp at hx; rcases hx with rfl | rfl <;> assumption) (by simp)).mono ?_
      rw [hfl]
      rintro e w2 ⟨v2, rfl, hown2, hb2⟩
      obtain ⟨p, hp⟩ : ∃ p, (a ++ l1).length = p := ⟨_, rfl⟩
      have hp128 : p ≤ 128 := by rw [← hp, List.length_append]; omega
      have HPL := Lib.hid hp
      rw [hp] at hown2
      have HB2 := Lib.hid (HBAL.out.trans (hb2.mono HBAL.out.size))
      have HO2 := Lib.hid (own_mono hown2 HBAL.out.size)
      obtain ⟨vo, vc, rfl, -, -, -⟩ := own_shape hown2
      clear hown2 hb2 hp d0 d1 d2 d3 d4 c0
      go_wp2_with fail
      refine (Sort64.sort_own _ p wq.heap.size (a ++ l1) _ HO2.out (by omega)).mono ?_
      rintro e w3 ⟨rfl, hown3, hg3⟩
      obtain ⟨ss, hss⟩ : ∃ ss, ss = (a ++ l1).mergeSort fun x y => decide (x ≤ y) := ⟨_, rfl⟩
      rw [← hss] at hown3
      have hsl : ss.length = p := by rw [hss, List.length_mergeSort]; exact HPL.out
      have HB3 := Lib.hid (Below.grown HB2.out hg3 HB2.out.size (fun k hk => (HO2.out.lt k hk).1))
      have HSS := Lib.hid hss
      have HSL := Lib.hid hsl
      have HNS : Hid (Ns w3 (.slice vo p vc) ss) := Lib.hid (by unfold Ns; rw [hsl]; exact own_sl hown3)
      have hodd1 : oddTo ss 1 = [] := by
        show (match ss[0]? with | none => oddTo ss 0 | some v => if 0 % 2 = 1 then oddTo ss 0 ++ [v] else oddTo ss 0) = []
        split <;> rfl
      have HODD := Lib.hid hodd1
      clear hown3 hg3 hss hsl hodd1
      go_wp2_with fail
      go_loopw [1, 7] (fun x y wx => ∃ i : Nat, i % 2 = 1 ∧ i ≤ p + 1 ∧ y = .int .i64 i ∧ Hid (wx.ownsRow w3.heap.size 2 1 x (oddTo ss i).length ((oddTo ss i).map (Value.int .i64))) ∧ Below w3.heap.size w3 wx) (fun _ y _ => 200 - (intOf y).toNat)
      case atStart => exact ⟨1, rfl, by omega, rfl, Lib.hid (by rw [HODD.out]; exact World.ownsRow_nil _ _ _ _), Below.refl _ _⟩
      case round =>
        obtain ⟨i, hi2, hip, rfl, HO, hbr⟩ := hrel
        obtain ⟨q, hq⟩ : ∃ q, (oddTo ss i).length = q := ⟨_, rfl⟩
        have hqi := oddTo_len (l := ss) i
        have hown := HO.out
        rw [hq] at hown hqi
        obtain ⟨zo, zc, rfl, hzc, -, -⟩ := own_shape hown
        have HQ := Lib.hid hq
        clear hq
        by_cases hlt : i < p
        · obtain ⟨z, hz⟩ : ∃ z, ss[i]? = some z := ⟨_, List.getElem?_eq_getElem (by rw [HSL.out]; exact hlt)⟩
          obtain ⟨gs, goff, rfl, c0⟩ := (HNS.out.below hbr).at hz
          have HTW := Lib.hid (oddTo_two hi2 hz).1
          clear hz
          go_wp2_with (at_builtin; refine append1 [.int .i64 z] Sort64.elI64 rfl _ _ rfl hown hbr hbr.size rfl rfl rfl (by intro u hu; simp at hu; rw [hu]; rfl) ?c4 ?c5 ?_)
          case c4 => omega
          case c5 => omega
          intro v7 w7 hown7 hbel7 hgr7
          have HO7 : Hid (w7.ownsRow w3.heap.size 2 1 v7 (oddTo ss (i + 2)).length ((oddTo ss (i + 2)).map (Value.int .i64))) := Lib.hid (by
            rw [HTW.out, List.length_append, HQ.out, List.map_append]
            simpa using hown7)
          clear hown7 hgr7 hown
          go_wp2_with fail
          go_roundw
          case rel => exact ⟨i + 2, by omega, by omega, by go_num, HO7, hbel7⟩
          case measure => simp [intOf]; omega
        · have hend : oddTo ss i = halfS ss := oddTo_end i (by rw [HSL.out]; omega)
          have hfin := HO.out
          rw [hend] at hfin
          have hbw : Below wq.heap.size wq wr := HB3.out.trans (hbr.mono HB3.out.size)
          have hC := HC.out.below hbw
          obtain ⟨g', cap', ta', e1, c0, f0, -⟩ := hC.level HA.out
          simp only [Value.slice.injEq, Option.some.injEq, Addr.mk.injEq, and_true, true_and] at e1
          obtain ⟨rfl, rfl⟩ := e1
          obtain ⟨sl2, hsl2⟩ : ∃ sl2, sl2 = sl1 + 2 ^ lev1 := ⟨_, rfl⟩
          have hnx := HC.out.next hbw HA.out ha0 HSS.out (own_mono hfin HB3.out.size) hsl2
          have hp30 := pow30 (i := lev1) (by omega)
          have hslk := HC.out.slk
          have hS2 := hS.2
          have hkk : wrap64 ((2 : Int) ^ lev1) = 2 ^ lev1 ∧ wrap64 (sl1 + 2 ^ lev1) = sl2 := by
            rw [hsl2]
            clear hnx hsl2 HC
            generalize (2 : Int) ^ lev1 = E at *
            exact ⟨IntWalk.wrap64_in _ (by omega), IntWalk.wrap64_in _ (by omega)⟩
          obtain ⟨k1, k2⟩ := hkk
          have hne : bx ≠ g := by
            obtain ⟨P, e1, e2, e3, e4⟩ := hC.own.2
            have := own_block_ne e4 hC.box (by decide)
            exact fun e => this (by rw [e]; rfl)
          have hbx2 := row_setCell_other (i := lev1) (b' := g) (.slice none 0 0) hC.box hne
          obtain ⟨⟨d0, d1, d2, d3, d4⟩, -⟩ := bx5 hC.box
          have HBX2 := Lib.hid hbx2
          have HN := Lib.hid hnx
          have hi1 : (0 : Int) ≤ (lev1 : Int) := by omega
          have hi2 : (lev1 : Int) < (L : Int) := by omega
          have hm64 : min lev1 64 = lev1 := by omega
          clear hbx2 hC hnx hsl2 hfin hown hend hp30 hslk hS2
          go_upto_region 10 with (fail)
          obtain ⟨⟨q0, q1, q2, q3, q4⟩, ⟨f5, f6, f7, f8, f9⟩⟩ := bx5 HBX2.out
          go_region
          all_goals
            go_wp2
            go_roundw
            case rel => exact ⟨lev1 + 1, _, sl2, halfS ss, _, by omega, by go_num, Lib.hid (HN.out.below (Below.refl _ _).drew)⟩
            case measure => simp [intOf]; omega
    | false =>
      have HE0 := Lib.hid (HC.out.out hL (of_decide_eq_false HG.out))
      have hll := HC.out.lens.2
      obtain ⟨q, hq⟩ : ∃ q, l1.length = q := ⟨_, rfl⟩
      have HQ := Lib.hid hq
      rw [hq] at HE0 ⊢
      clear d0 d1 d2 d3 d4 HC hq
      go_wp2_with fail
      go_loopg [] 40 (fun kx wx => ∃ (lv2 : List (List Int)) (u2 : Value), lv2.length ≤ 31 ∧ 32 - lv2.length ≤ kx ∧ Hid (EAt w B bx K N sl1 tl t u T l1 lev1 lv2 (.slice xo q xc) u2 wx))
      case atStart => exact ⟨lv1, _, by omega, by omega, HE0⟩
      case round =>
        obtain ⟨lv2, u2, hl31, hkx, HE⟩ := hrel
        obtain ⟨P, e1, e2, e3, e4⟩ := HE.out.own.2
        obtain ⟨p, hp⟩ : ∃ p, lv2.length = p := ⟨_, rfl⟩
        rw [show (⟨K, tl, lv2, N, sl1⟩ : Rk).lv.length = p from hp] at e4
        obtain ⟨ro, rc, rfl, hrc, -, -⟩ := own_shape e4
        have HPL := Lib.hid hp
        rw [hp] at hl31 hkx
        by_cases hlt : p ≤ lev1
        · have hbld := own_build (B := wr.heap.size) (e := 72) (size := 1) (n := 1) wr [.slice none 0 0] (Nat.le_refl _) rfl (by decide)
          have hE2 := HE.out.below ((Below.refl _ wr).alloc (Nat.le_refl _) (Obj.cells [Value.slice none 0 0].toArray 72))
          have hsl := own_sl hbld
          have hown := e4.alloc (Obj.cells [Value.slice none 0 0].toArray 72)
          have e3' : ∀ r ∈ P, LvO t.ownBlock B (wr.alloc (Obj.cells [Value.slice none 0 0].toArray 72)) r.1 r.2 := fun r hr => (e3 r hr).below ((Below.refl _ wr).alloc (Nat.le_refl _) _)
          have HE2 := Lib.hid hE2
          have HPP := Lib.hid (And.intro e1 (And.intro e2 e3'))
          obtain ⟨⟨d0, d1, d2, d3, d4⟩, -⟩ := bx5 HE.out.box
          clear hbld hE2 e1 e2 e3 e3' hp
          go_wp2_with (at_builtin; refine app_liesK elLv rfl _ _ rfl hown rfl rfl hsl (by intro u hu; simp at hu; rw [hu]; rfl) (by decide) ?c1 ?c2 HE2.out.low.2 ?_)
          case c1 => omega
          case c2 => omega
          intro g cap w7 hown7 hg7 hat7 hlt7
          obtain ⟨hE7, hbox7⟩ := HE2.out.more (by rw [HPL.out]; exact hlt) hlev1 HPL.out HPP.out.1 HPP.out.2.1 HPP.out.2.2 hown hown7 hg7 (by rw [World.size_alloc]; exact hat7)
          have HE7 := Lib.hid hE7
          clear hE7 hown7 hg7 hat7 hown hsl e4 d0 d1 d2 d3 d4
          obtain ⟨⟨d0, d1, d2, d3, d4⟩, ⟨f0, f1, f2, f3, f4⟩⟩ := bx5 hbox7
          clear hbox7
          go_wp2_with fail
          go_roundg (32 - (p + 1))
          case measure => omega
          case rel => exact ⟨lv2 ++ [[]], _, by rw [List.length_append, HPL.out, List.length_singleton]; omega, by rw [List.length_append, HPL.out, List.length_singleton]; exact Nat.le_refl _, HE7⟩
        · have hlt2 : lev1 < p := by omega
          obtain ⟨g, cap, e5, -, -, -, -, -⟩ := own_some e4 (by omega)
          simp only [Value.slice.injEq, true_and] at e5
          obtain ⟨rfl, rfl⟩ := e5
          obtain ⟨⟨d0, d1, d2, d3, d4⟩, -⟩ := bx5 HE.out.box
          have htg := HE.out.tgt
          rw [pad_same (by rw [HPL.out]; exact hlt2)] at htg
          have hlvs := lvs_set HE.out.own.2 HPL.out (a := l1) (ta := .slice xo q xc) ⟨_, rfl, HE.out.lrow, HE.out.lap⟩ hlt2
          obtain ⟨ps, hps⟩ : ∃ ps, P[lev1]? = some ps := ⟨_, List.getElem?_eq_getElem (by have := congrArg List.length e1; rw [List.length_map, HPL.out] at this; omega)⟩
          obtain ⟨tx, i1, -, -⟩ := e3 _ (List.mem_of_getElem? hps)
          obtain ⟨hcl, hfz⟩ := own_el e4 e2 hps hlt2
          have c0 := hcl 0 tx (by rw [i1]; rfl)
          have z0 := hfz 0
          rw [Nat.mul_one, Nat.add_zero] at c0 z0
          have hne : (Value.slice (some ⟨g, 0, none⟩) p rc).ownBlock ≠ some bx := own_block_ne e4 HE.out.box (by decide)
          have hgb : bx ≠ g := fun e => hne (by rw [← e]; rfl)
          have hB2 := (e4.lt g rfl).1
          have htail := ownsRow_setCell_other HE.out.own.1 (a := ⟨g, lev1, none⟩) (fun e => by
            rcases own_ne e4 HE.out.own.1 (by decide) with h5 | h5
            · rw [h5] at e; simp at e
            · exact h5 (by rw [e]; rfl)) (.slice xo q xc)
          have HFIN : Hid (∃ u', (wr.setCell ⟨g, lev1, none⟩ (.slice xo q xc)).heap[bx]? = some (.cells #[.int .i64 K, t, u', .int .i64 N, .int .i64 T.2] 141 (0, 0)) ∧ OwnRk B (wr.setCell ⟨g, lev1, none⟩ (.slice xo q xc)) ⟨K, tl, T.1, N, T.2⟩ t u' ∧ Fp w (wr.setCell ⟨g, lev1, none⟩ (.slice xo q xc)) bx u u' ∧ Below B w (wr.setCell ⟨g, lev1, none⟩ (.slice xo q xc))) := Lib.hid (by
            rw [← htg]
            exact ⟨_, row_setCell_other (i := lev1) (b' := g) (.slice xo q xc) HE.out.box hgb, ⟨htail, hlvs⟩, HE.out.fp.row rfl, HE.out.bel.setCell (p := ⟨g, lev1, none⟩) hB2 _⟩)
          have hi1 : (0 : Int) ≤ (lev1 : Int) := by omega
          have hi2 : (lev1 : Int) < (p : Int) := by omega
          clear htg hlvs hps hcl hfz htail e1 e2 e3 e4 hp hne
          go_wp2_with fail
          refine ⟨rfl, .tuple #[], ?_, rfl, HFIN.out⟩
          simp [results, Try.results156, go_sem]
end Go.Proofs.Ytcljeedmiobepaa.Rk
