/-
  The document's rows: the closures of Asked, and rowMore (PRINTED by mkev8.py).
-/
import Derived.Test.YtjmplhkdohlbcaaGreatDoorEz2
import Derived.Test.YtjmplhkdohlbcaaGreatDoorEz11
import Derived.Test.YtjmplhkdohlbcaaGreatDoorEz16
import Derived.ChangeKeysEq
import Derived.BigQuiet
import Derived.Laws.StructEq
namespace Go.Proofs.YtjmplhkdohlbcaaGreatDoor.Evl
open Go.RowKit Go.Gh Go.Gh.Clr Go.WideShapes Go.Proofs.YtjmplhkdohlbcaaGreatDoor.Lab Go.Proofs.YtjmplhkdohlbcaaGreatDoor.Exp
set_option linter.unusedVariables false
set_option linter.unusedSimpArgs false
theorem sec_any (a b : Int) (w : World) : Calls Tryz.prog 59 #[.int .i64 a, .int .i64 b] w fun e w' => e = .returned (.int .i64 (sec a b)) ∧ w = w' := by
  go_enter Tryz.func59, Tryz.ntmps59
  go_wp2
  go_ret
  exact ⟨rfl, rfl⟩
theorem sum_any (a b k : Int) {bx : Nat} {k1 k2 um ub ux : Value} (w : World) (hx : w.heap[bx]? = some (.cells #[.int .i64 k, k1, k2, um, ub, ux] 38 (0, 0))) : Calls Tryz.prog 61 #[.int .i64 a, .int .i64 b, .pointer (some ⟨bx, 0, none⟩)] w fun e w' => e = .returned (.int .i64 (opK k a b)) ∧ w = w' := by
  obtain ⟨⟨z0, -, -, -, -, -⟩, -⟩ := bx6 hx
  clear hx
  unfold opK
  by_cases h4 : k = 4
  · rw [if_pos h4]
    have t1 : (k == 4) = true := by rw [h4]; rfl
    clear h4
    go_enter Tryz.func61, Tryz.ntmps61
    go_wp2
    go_ret
    exact ⟨rfl, rfl⟩
  · rw [if_neg h4]
    have t1 : (k == 4) = false := beq_eq_false_iff_ne.2 h4
    clear h4
    go_enter Tryz.func61, Tryz.ntmps61
    go_wp2
    go_ret
    exact ⟨by rw [IntWalk.i64_left]; rfl, rfl⟩
/-- What rowMore answers. -/
def MoP (w : World) (S : List Rw) (e : Ending) (w' : World) : Prop := ∃ v, e = .returned v ∧ Ow (fun _ r c => RdR w r c) 2 96 w.heap.size w' v S ∧ Below w.heap.size w w'
/-- What stands between two rounds. -/
def MoAt (w : World) (R : List Rw) (o : Value) (wr : World) : Prop := Ow (fun _ r c => RdR w r c) 2 96 w.heap.size wr o R ∧ Below w.heap.size w wr
theorem MoAt.below {w wr w' : World} {R : List Rw} {o : Value} (h : MoAt w R o wr) (hb : Below wr.heap.size wr w') : MoAt w R o w' := ⟨h.1.below (fun _ _ _ _ h _ => h) hb, h.2.trans (hb.mono h.2.size)⟩
theorem mo_snoc {w wr w' : World} {R : List Rw} {oo : Option Addr} {oc n : Nat} {r : Rw} {v' : Value} {c : List Value} {P : List (Rw × List Value)} (h : (P.map (·.1) = R ∧ PK 2 P ∧ ∀ p ∈ P, RdR w p.1 p.2)) (hrow : wr.ownsRow w.heap.size 96 2 (.slice oo n oc) n (pc P)) (hn : R.length = n)
    (hg : wr.grownBy w' (Value.slice oo n oc).ownBlock) (hown : w'.ownsRow w.heap.size 96 2 v' (n + 1) (pc P ++ c)) (hb : Below w.heap.size w w') (hc : c.length = 2) (hr : RdR w r c) : MoAt w (R ++ [r]) v' w' :=
  ⟨Ow.snoc (R := fun _ r c => RdR w r c) (fun w w' a c u m us h _ _ => h) h.1 h.2.1 h.2.2 hrow hn.symm hg hown hc hr, hb⟩
theorem mo_box {w wr : World} {R : List Rw} {o : Value} {xb j : Nat} {u : Value} (h : MoAt w R o wr) (hw : w.heap.size ≤ xb) (hne : o.ownBlock = none ∨ o.ownBlock ≠ some xb) : MoAt w R o (wr.setCell ⟨xb, j, none⟩ u) := by
  obtain ⟨⟨P, h1, h2, h3, h4⟩, hb⟩ := h
  exact ⟨⟨P, h1, h2, h3, h4.kept (grown_set wr ⟨xb, j, none⟩ u) hne⟩, hb.setCell (by exact hw) u⟩
theorem mo_len (f : Int → Int → Int) (r : Rw) : ∀ (S : List Rw) (s : Bool × List Rw), (S.foldl (stepM f r) s).2.length ≤ s.2.length + 2 * S.length
  | [], s => by simp
  | x :: S, s => by
    rw [List.foldl_cons]
    have h1 := mo_len f r S (stepM f r s x)
    have h2 : (stepM f r s x).2.length ≤ s.2.length + 2 := by
      unfold stepM
      split <;> simp
    simp only [List.length_cons]
    omega
theorem mo_step {f : Int → Int → Int} {r x : Rw} {S : List Rw} {j : Nat} {s : Bool × List Rw} (h : S[j]? = some x) : (S.take (j + 1)).foldl (stepM f r) s = stepM f r ((S.take j).foldl (stepM f r) s) x := by
  rw [List.take_add_one, h, List.foldl_append]
  rfl
theorem gt_str (a b : By) : (!(Op.bytesLess a b) && !(a == b)) = decide (b < a) := by
  rw [Go.Proofs.bytesLess_eq]
  rcases by_tri a b with h | h | h
  · have h2 : ¬ b < a := fun h3 => List.lt_irrefl _ (List.lt_trans h h3)
    simp [h, h2]
  · rw [h]; simp [List.lt_irrefl]
  · have h2 : ¬ a < b := fun h3 => List.lt_irrefl _ (List.lt_trans h h3)
    have h3 : a ≠ b := fun e => by rw [e] at h; exact List.lt_irrefl _ h
    simp [h, h2, h3]
theorem eq_str (a b : By) : (a == b) = decide (a = b) := by
  by_cases h : a = b
  · rw [h]; simp
  · rw [decide_eq_false h]; exact beq_eq_false_iff_ne.2 h
set_option maxHeartbeats 16000000 in
set_option maxRecDepth 100000 in
theorem more1_any (S : List Rw) (L : List Lb) (n : Int) (u v : Value) (w : World) (hs : Sp RdR 2 w u S) (ht : Sp LbR 2 w v L) (hG : ∀ r ∈ S, labelF r.1 = 0) (hL : labelF L = 0) (hl : S.length ≤ 1000000) :
    Calls Tryz.prog 60 #[u, .agg #[v, .int .i64 n], .func (.func 59) #[] #[]] w (MoP w (moreF sec (L, n) S)) := by
  obtain ⟨m, hm⟩ : ∃ m, S.length = m := ⟨_, rfl⟩
  obtain ⟨so, sc, rfl, -, -⟩ := hs.shapeN hm
  obtain ⟨tl, htl⟩ : ∃ n, L.length = n := ⟨_, rfl⟩
  obtain ⟨ta, tc, rfl, -, -⟩ := ht.shapeN htl
  rw [hm] at hl
  obtain ⟨W, hW⟩ : ∃ W, W = w.alloc (.cells #[.slice ta tl tc, .int .i64 n] 96) := ⟨_, rfl⟩
  have hbW : Below w.heap.size w W := by rw [hW]; exact (Below.refl _ w).alloc (Nat.le_refl _) _
  have hbox : W.heap[w.heap.size]? = some (.cells #[.slice ta tl tc, .int .i64 n] 96 (0, 0)) := by rw [hW]; exact heap_alloc_new w _
  have HTX := Lib.hid (lbtext_any (.slice ta tl tc) L W (ht.below lbR_mono hbW) hL)
  have HTX2 := Lib.hid (fun Wx (x : Rw) vx (h1 : Sp LbR 2 w vx x.1) (h0 : labelF x.1 = 0) (hb : Below w.heap.size w Wx) => lbtext_any vx x.1 Wx (h1.below lbR_mono hb) h0)
  obtain ⟨KY, hKY⟩ : ∃ K, kyL L = K := ⟨_, rfl⟩
  have hKY2 : textM (asM L) = KY := hKY
  rw [hKY2] at HTX
  have HKY := Lib.hid hKY
  have HS := Lib.hid hs
  have HTT : Hid (RdR w (L, n) [.slice ta tl tc, .int .i64 n]) := Lib.hid ⟨_, rfl, ht⟩
  have HM := Lib.hid hm
  have HG := Lib.hid hG
  have HBW := Lib.hid hbW
  have HWW := Lib.hid hW
  obtain ⟨⟨r0, r1⟩, -⟩ := bx2 hbox
  obtain ⟨bx, hbx⟩ : ∃ bx, w.heap.size = bx := ⟨_, rfl⟩
  rw [hbx] at r0 r1 hbox
  have HBX := Lib.hid hbox
  have HBE := Lib.hid hbx
  have hbl : bx < W.heap.size := (Array.getElem?_eq_some_iff.1 hbox).1
  clear hs ht hG hL hm htl hW hbW hbox hKY hKY2 hbx
  go_enter Tryz.func60, Tryz.ntmps60
  go_upto_region 1 with (fail)
  rw [HBE.out, ← HWW.out]
  go_wp2_with fail
  refine HTX.out.mono ?_
  rintro e w2 ⟨rfl, hb2⟩
  have HB2 := Lib.hid (HBW.out.trans (hb2.mono HBW.out.size))
  have HBX2 := Lib.hid ((hb2.block bx hbl).trans HBX.out)
  clear hb2 r0 r1
  have H00 : Hid (MoAt w ((S.take 0).foldl (stepM sec (L, n)) (false, [])).2 (.slice none 0 0) w2) := Lib.hid ⟨Ow.nil, HB2.out⟩
  go_wp2_with fail
  go_loopw [8, 9, 18] (fun o p i wr => ∃ j : Nat, j ≤ m ∧ i = .int .i64 j ∧ p = .bool ((S.take j).foldl (stepM sec (L, n)) (false, [])).1 ∧ Hid (MoAt w ((S.take j).foldl (stepM sec (L, n)) (false, [])).2 o wr) ∧ Hid (wr.heap[bx]? = some (.cells #[.slice ta tl tc, .int .i64 n] 96 (0, 0))) ∧ Hid (o.ownBlock ≠ some bx)) (fun _ _ i _ => m - (intOf i).toNat)
  case atStart => exact ⟨0, Nat.zero_le _, rfl, rfl, H00, HBX2, Lib.hid (by simp [Value.ownBlock])⟩
  case round =>
  obtain ⟨j, hj, rfl, rfl, HR, HX, HNB⟩ := hrel
  obtain ⟨st, hst⟩ : ∃ st, (S.take j).foldl (stepM sec (L, n)) (false, []) = st := ⟨_, rfl⟩
  have hol : st.2.length ≤ 2 * m := by
    have h := mo_len sec (L, n) (S.take j) (false, [])
    rw [hst] at h
    have h2 : (S.take j).length ≤ m := by rw [List.length_take, HM.out]; omega
    simp at h
    omega
  rw [hst] at HR ⊢
  obtain ⟨put, out⟩ := st
  simp only at HR hol ⊢
  have HST := Lib.hid hst
  clear hst
  obtain ⟨on, hon⟩ : ∃ k, out.length = k := ⟨_, rfl⟩
  obtain ⟨oo, oc, hu8, -, -⟩ := HR.out.1.sp.shapeN hon
  subst hu8
  rw [hon] at hol
  have HON := Lib.hid hon
  clear hon
  by_cases hlt : j < m
  case neg =>
    obtain rfl : j = m := by omega
    have HFIN : Hid (moreF sec (L, n) S = endM (L, n) (put, out)) := Lib.hid (by
      have h := HST.out
      rw [List.take_of_length_le (by rw [HM.out]; exact Nat.le_refl _)] at h
      unfold moreF
      rw [h])
    cases put with
    | true =>
      have HE : Hid (MoP w (moreF sec (L, n) S) (.returned (.slice oo on oc)) wr) := Lib.hid (by
        rw [HFIN.out]
        exact ⟨_, rfl, HR.out.1, HR.out.2⟩)
      go_wp2_with fail
      go_ret
      exact HE.out
    | false =>
      obtain ⟨⟨x0, x1⟩, -⟩ := bx2 HX.out
      obtain ⟨P, hP1, hP2, hP3, hrow⟩ := HR.out.1
      rw [HON.out] at hrow
      have HPP := Lib.hid (And.intro hP1 (And.intro hP2 hP3))
      have hbelr : Below w.heap.size w wr := HR.out.2
      have hszr : w.heap.size ≤ wr.heap.size := HR.out.2.size
      clear hP1 hP2 hP3
      go_wp2_with (at_builtin; refine append1 [.slice ta tl tc, .int .i64 n] elRd rfl _ _ rfl hrow hbelr hszr rfl rfl rfl (by intro x hx; simp at hx; rcases hx with rfl | rfl <;> rfl) ?c4 ?c5 ?_)
      case c4 => omega
      case c5 => omega
      intro v7 w7 hown7 hbel7 hgr7
      obtain ⟨o7, c7, rfl, -, -, -⟩ := own_shape hown7
      have HE : Hid (MoP w (moreF sec (L, n) S) (.returned (.slice o7 (on + 1) c7)) w7) := Lib.hid (by
        rw [HFIN.out]
        have h := mo_snoc HPP.out hrow HON.out hgr7 hown7 hbel7 rfl HTT.out
        exact ⟨_, rfl, h.1, h.2⟩)
      clear hown7 hbel7 hgr7 hrow hbelr hszr
      go_wp2_with fail
      go_ret
      exact HE.out
  obtain ⟨x, hx⟩ : ∃ x, S[j]? = some x := ⟨_, List.getElem?_eq_getElem (by rw [HM.out]; exact hlt)⟩
  obtain ⟨Lx, Vx⟩ := x
  obtain ⟨b, off, cs, e8, ⟨t, rfl, ht⟩, -, hcell⟩ := (HS.out).get hx
  obtain rfl := e8
  obtain ⟨xl, hxl⟩ : ∃ n, Lx.length = n := ⟨_, rfl⟩
  simp only at ht
  obtain ⟨xa, xc, rfl, -, -⟩ := ht.shapeN hxl
  have c0 := hcell 0 _ rfl
  have c1 := hcell 1 _ rfl
  rw [Nat.add_zero] at c0
  have c0 := (HR.out.2.cell (p := ⟨_, _, none⟩) (cell_lt c0)).trans c0
  have c1 := (HR.out.2.cell (p := ⟨_, _, none⟩) (cell_lt c1)).trans c1
  have hx0 := HG.out _ (List.mem_of_getElem? hx)
  have HXT : Hid (∀ z, RdR w (Lx, z) [.slice xa xl xc, .int .i64 z]) := Lib.hid (fun z => ⟨_, rfl, ht⟩)
  have HNX := Lib.hid (mo_step (f := sec) (r := (L, n)) (s := (false, [])) hx)
  obtain ⟨wb, hwb⟩ : ∃ wb, wb = wr.alloc (.cells #[.slice xa xl xc, .int .i64 Vx] 96) := ⟨_, rfl⟩
  have hBB : Below wr.heap.size wr wb := by rw [hwb]; exact (Below.refl _ wr).alloc (Nat.le_refl _) _
  have hsb : wb.heap[wr.heap.size]? = some (.cells #[.slice xa xl xc, .int .i64 Vx] 96 (0, 0)) := by rw [hwb]; exact heap_alloc_new wr _
  have HRb := Lib.hid (HR.out.below hBB)
  have HXb := Lib.hid ((hBB.block bx (Array.getElem?_eq_some_iff.1 HX.out).1).trans HX.out)
  have HNY : Hid ((Value.slice oo on oc).ownBlock ≠ some wr.heap.size) := Lib.hid (fun e => by
    obtain ⟨P, -, -, -, h4⟩ := HR.out.1
    rw [HON.out] at h4
    have := (h4.lt _ e).2
    omega)
  have HBXY : Hid (bx ≠ wr.heap.size) := Lib.hid (by have := (Array.getElem?_eq_some_iff.1 HX.out).1; omega)
  have HWY : Hid (w.heap.size ≤ wr.heap.size) := Lib.hid HR.out.2.size
  have HTB := Lib.hid (HTX2.out wb (Lx, Vx) _ ht hx0 HRb.out.2)
  obtain ⟨KX, hKX⟩ : ∃ K, kyL Lx = K := ⟨_, rfl⟩
  have hKX2 : textM (asM Lx) = KX := hKX
  simp only at HTB
  rw [hKX2] at HTB
  have HGT := Lib.hid (gt_str KX KY)
  have HEQ := Lib.hid (eq_str KX KY)
  obtain ⟨G, hG⟩ : ∃ G, decide (KY < KX) = G := ⟨_, rfl⟩
  obtain ⟨E, hE⟩ : ∃ E, decide (KX = KY) = E := ⟨_, rfl⟩
  have HSTP : Hid ((S.take (j + 1)).foldl (stepM sec (L, n)) (false, []) = (put || G || E, (out ++ if put = false ∧ G = true then [(L, n)] else []) ++ [if E = true then (Lx, sec Vx n) else (Lx, Vx)])) := Lib.hid (by
    rw [HNX.out, HST.out, ← hG, ← hE]
    unfold stepM
    rw [HKY.out, hKX]
    simp only [decide_eq_true_eq])
  rw [hG] at HGT
  rw [hE] at HEQ
  obtain ⟨TX, hTX⟩ : ∃ T, mkS KX = T := ⟨_, rfl⟩
  obtain ⟨TY, hTY⟩ : ∃ T, mkS KY = T := ⟨_, rfl⟩
  have t1 : (!(Op.bytesLess TX.toList TY.toList) && !(TX.toList == TY.toList)) = G := by rw [← hTX, ← hTY, mkS_list, mkS_list]; exact HGT.out
  have t2 : (TX.toList == TY.toList) = E := by rw [← hTX, ← hTY, mkS_list, mkS_list]; exact HEQ.out
  rw [hTX] at HTB
  have hj0 : (0 : Int) ≤ (j : Int) := by omega
  have hj1 : (j : Int) < (m : Int) := by omega
  obtain ⟨⟨s0, s1⟩, -⟩ := bx2 hsb
  have HSB := Lib.hid hsb
  have hyl := (Array.getElem?_eq_some_iff.1 hsb).1
  rw [hTY]
  have HTE := Lib.hid (And.intro t1 t2)
  clear hcell ht hx hx0 hxl hsb hBB hKX hKX2 hG hE HGT HEQ HKY hTX hTY t1 t2
  go_upto_region 7 with (fail)
  rw [← hwb]
  clear hwb c0 c1
  generalize hby : wr.heap.size = yb at *
  go_wp2_with fail
  refine HTB.out.mono ?_
  rintro e w3 ⟨rfl, hb3⟩
  have HR3 := Lib.hid (HRb.out.below hb3)
  have HX3 := Lib.hid ((hb3.block bx (Array.getElem?_eq_some_iff.1 HXb.out).1).trans HXb.out)
  have HY3 := Lib.hid ((hb3.block yb hyl).trans HSB.out)
  clear hb3 s0 s1
  -- the new row ahead of x
  obtain ⟨put2, hput2⟩ : ∃ p, (put || G) = p := ⟨_, rfl⟩
  obtain ⟨out2, hout2⟩ : ∃ o, (out ++ if put = false ∧ G = true then [(L, n)] else []) = o := ⟨_, rfl⟩
  rw [hput2, hout2] at HSTP
  have HP2 := Lib.hid (And.intro hput2 hout2)
  have ho2l : out2.length ≤ 2 * m + 1 := by rw [← hout2, List.length_append, HON.out]; split <;> simp <;> omega
  clear hput2 hout2
  obtain ⟨T, hT⟩ : ∃ T, (!put && G) = T := ⟨_, rfl⟩
  have HTT2 := Lib.hid hT
  clear hT
  go_upto_region 8 with (fail)
  go_cut [31] (fun t wx => t = .bool T ∧ w3 = wx)
  case first =>
    have t1 := HTE.out.1
    cases put with
    | true =>
      obtain rfl : T = false := by rw [← HTT2.out]; rfl
      go_wp2_with fail
      go_meet
      exact ⟨rfl, rfl⟩
    | false =>
      obtain rfl : T = G := by rw [← HTT2.out]; rfl
      go_wp2_with fail
      go_meet
      exact ⟨rfl, rfl⟩
  obtain ⟨rfl, hwx⟩ := hcut
  subst hwx
  go_upto_if 31 with (fail)
  go_cut [8, 9] (fun o p wx => p = .bool put2 ∧ Hid (MoAt w out2 o wx) ∧ Hid (wx.heap[bx]? = some (.cells #[.slice ta tl tc, .int .i64 n] 96 (0, 0))) ∧ Hid (wx.heap[yb]? = some (.cells #[.slice xa xl xc, .int .i64 Vx] 96 (0, 0))) ∧ Hid (o.ownBlock ≠ some bx ∧ o.ownBlock ≠ some yb))
  case first =>
    cases put with
    | true =>
      obtain rfl : T = false := by rw [← HTT2.out]; rfl
      have HM4 : Hid (MoAt w out2 (.slice oo on oc) w3) := Lib.hid (by
        rw [← HP2.out.2, if_neg (by simp), List.append_nil]
        exact HR3.out)
      have e1 : put2 = true := by rw [← HP2.out.1]; rfl
      subst e1
      go_wp2_with fail
      go_meet
      exact ⟨by first | rfl | trivial, HM4, HX3, HY3, Lib.hid ⟨HNB.out, HNY.out⟩⟩
    | false =>
      cases G with
      | false =>
        obtain rfl : T = false := by rw [← HTT2.out]; rfl
        have HM4 : Hid (MoAt w out2 (.slice oo on oc) w3) := Lib.hid (by
          rw [← HP2.out.2, if_neg (by simp), List.append_nil]
          exact HR3.out)
        have e1 : put2 = false := by rw [← HP2.out.1]; rfl
        subst e1
        go_wp2_with fail
        go_meet
        exact ⟨by first | rfl | trivial, HM4, HX3, HY3, Lib.hid ⟨HNB.out, HNY.out⟩⟩
      | true =>
        obtain rfl : T = true := by rw [← HTT2.out]; rfl
        have e1 : put2 = true := by rw [← HP2.out.1]; rfl
        subst e1
        obtain ⟨⟨x0, x1⟩, -⟩ := bx2 HX3.out
        obtain ⟨P, hP1, hP2, hP3, hrow⟩ := HR3.out.1
        rw [HON.out] at hrow
        have HPP := Lib.hid (And.intro hP1 (And.intro hP2 hP3))
        have hbelr : Below w.heap.size w w3 := HR3.out.2
        have hszr : w.heap.size ≤ w3.heap.size := HR3.out.2.size
        clear hP1 hP2 hP3
        go_wp2_with (at_builtin; refine append2 [.slice ta tl tc, .int .i64 n] elRd rfl _ _ rfl hrow hbelr hszr rfl rfl rfl (by intro x hx; simp at hx; rcases hx with rfl | rfl <;> rfl) ?c4 ?c5 ?_)
        case c4 => omega
        case c5 => omega
        intro g7 c7 w7 hown7 hbel7 hgr7 hat7
        have HM7 : Hid (MoAt w out2 (.slice (some ⟨g7, 0, none⟩) (on + 1) c7) w7) := Lib.hid (by
          rw [← HP2.out.2, if_pos (by simp)]
          exact mo_snoc HPP.out hrow HON.out hgr7 hown7 hbel7 rfl HTT.out)
        have HX7 := Lib.hid ((hgr7.block bx (Array.getElem?_eq_some_iff.1 HX3.out).1 (fun e => HNB.out e.symm)).trans HX3.out)
        have HY7 := Lib.hid ((hgr7.block yb (Array.getElem?_eq_some_iff.1 HY3.out).1 (fun e => HNY.out e.symm)).trans HY3.out)
        have HN7 : Hid ((Value.slice (some ⟨g7, 0, none⟩) (on + 1) c7).ownBlock ≠ some bx ∧ (Value.slice (some ⟨g7, 0, none⟩) (on + 1) c7).ownBlock ≠ some yb) := Lib.hid (by
          have l1 := (Array.getElem?_eq_some_iff.1 HX3.out).1
          have l2 := (Array.getElem?_eq_some_iff.1 HY3.out).1
          constructor
          · intro e
            have e2 : g7 = bx := by simpa [Value.ownBlock] using e
            rcases hat7 with h | h
            · exact HNB.out (by rw [← h, e2])
            · omega
          · intro e
            have e2 : g7 = yb := by simpa [Value.ownBlock] using e
            rcases hat7 with h | h
            · exact HNY.out (by rw [← h, e2])
            · omega)
        clear hown7 hbel7 hgr7 hat7 hrow hbelr hszr x0 x1
        go_wp2_with fail
        go_meet
        exact ⟨by first | rfl | trivial, HM7, HX7, HY7, HN7⟩
  obtain ⟨rfl, HM4, HX4, HY4, HN4⟩ := hcut
  obtain ⟨on2, hon2⟩ : ∃ k, out2.length = k := ⟨_, rfl⟩
  obtain ⟨qo, qc, hq8, -, -⟩ := HM4.out.1.sp.shapeN hon2
  subst hq8
  rw [hon2] at ho2l
  have HON2 := Lib.hid hon2
  clear hon2 HR3 HX3 HY3
  obtain ⟨wq, hwq⟩ : ∃ x, x = wc := ⟨_, rfl⟩
  have t2 := HTE.out.2
  obtain ⟨⟨y0, y1⟩, ⟨f0, f1⟩⟩ := bx2 HY4.out
  obtain ⟨⟨x0, x1⟩, -⟩ := bx2 HX4.out
  have hbelc : Below w.heap.size w wc := HM4.out.2
  have hszc : w.heap.size ≤ wc.heap.size := HM4.out.2.size
  cases E with
  | false =>
    have HSE : Hid ((S.take (j + 1)).foldl (stepM sec (L, n)) (false, []) = (put2, out2 ++ [(Lx, Vx)])) := Lib.hid (by rw [HSTP.out, Bool.or_false]; rfl)
    obtain ⟨P, hP1, hP2, hP3, hrow⟩ := HM4.out.1
    rw [HON2.out] at hrow
    have HPP := Lib.hid (And.intro hP1 (And.intro hP2 hP3))
    clear hP1 hP2 hP3
    go_wp2_with (at_builtin; refine append2 [.slice xa xl xc, .int .i64 Vx] elRd rfl _ _ rfl hrow hbelc hszc rfl rfl rfl (by intro x hx; simp at hx; rcases hx with rfl | rfl <;> rfl) ?c4 ?c5 ?_)
    case c4 => omega
    case c5 => omega
    intro g7 c7 w7 hown7 hbel7 hgr7 hat7
    have HM7 : Hid (MoAt w ((S.take (j + 1)).foldl (stepM sec (L, n)) (false, [])).2 (.slice (some ⟨g7, 0, none⟩) (on2 + 1) c7) w7) := Lib.hid (by
      rw [HSE.out]
      exact mo_snoc HPP.out hrow HON2.out hgr7 hown7 hbel7 rfl (HXT.out Vx))
    have HX7 := Lib.hid ((hgr7.block bx (Array.getElem?_eq_some_iff.1 HX4.out).1 (fun e => HN4.out.1 e.symm)).trans HX4.out)
    have HN7 : Hid ((Value.slice (some ⟨g7, 0, none⟩) (on2 + 1) c7).ownBlock ≠ some bx) := Lib.hid (by
      have l1 := (Array.getElem?_eq_some_iff.1 HX4.out).1
      intro e
      have e2 : g7 = bx := by simpa [Value.ownBlock] using e
      rcases hat7 with h | h
      · exact HN4.out.1 (by rw [← h, e2])
      · omega)
    have HPU : Hid (((S.take (j + 1)).foldl (stepM sec (L, n)) (false, [])).1 = put2) := Lib.hid (by rw [HSE.out])
    clear hown7 hbel7 hgr7 hat7 hrow hbelc hszc x0 x1 y0 y1 f0 f1 t2
    go_wp2_with fail
    go_roundw
    case rel => exact ⟨j + 1, by omega, by go_num, by rw [HPU.out], HM7, HX7, HN7⟩
    case measure => simp [intOf]; omega
  | true =>
    have HSE : Hid ((S.take (j + 1)).foldl (stepM sec (L, n)) (false, []) = (true, out2 ++ [(Lx, sec Vx n)])) := Lib.hid (by rw [HSTP.out, Bool.or_true]; rfl)
    have HCL := Lib.hid (sec_any Vx n wc)
    obtain ⟨FV, hFV⟩ : ∃ z, sec Vx n = z := ⟨_, rfl⟩
    rw [hFV] at HSE HCL
    clear hFV
    go_upto_region 13 with (go_at_call 59; refine HCL.out.mono ?_; rintro e w5 ⟨rfl, rfl⟩)
    obtain ⟨w6, hw6⟩ : ∃ w6, w6 = wc.setCell ⟨yb, 1, none⟩ (.int .i64 FV) := ⟨_, rfl⟩
    rw [← hw6]
    have HM6 : Hid (MoAt w out2 (.slice qo on2 qc) w6) := Lib.hid (by rw [hw6]; exact mo_box HM4.out HWY.out (Or.inr HN4.out.2))
    have hy6 : w6.heap[yb]? = some (.cells #[.slice xa xl xc, .int .i64 FV] 96 (0, 0)) := by rw [hw6]; exact row_setCell 1 _ HY4.out
    have HX6 : Hid (w6.heap[bx]? = some (.cells #[.slice ta tl tc, .int .i64 n] 96 (0, 0))) := Lib.hid (by rw [hw6]; exact row_setCell_other _ HX4.out HBXY.out)
    clear hw6 hbelc hszc y0 y1 f0 f1 x0 x1
    obtain ⟨⟨y0, y1⟩, -⟩ := bx2 hy6
    have hbelc : Below w.heap.size w w6 := HM6.out.2
    have hszc : w.heap.size ≤ w6.heap.size := HM6.out.2.size
    obtain ⟨P, hP1, hP2, hP3, hrow⟩ := HM6.out.1
    rw [HON2.out] at hrow
    have HPP := Lib.hid (And.intro hP1 (And.intro hP2 hP3))
    clear hP1 hP2 hP3 hy6
    go_wp2_with (at_builtin; refine append2 [.slice xa xl xc, .int .i64 FV] elRd rfl _ _ rfl hrow hbelc hszc rfl rfl rfl (by intro x hx; simp at hx; rcases hx with rfl | rfl <;> rfl) ?c4 ?c5 ?_)
    case c4 => omega
    case c5 => omega
    intro g7 c7 w7 hown7 hbel7 hgr7 hat7
    have HM7 : Hid (MoAt w ((S.take (j + 1)).foldl (stepM sec (L, n)) (false, [])).2 (.slice (some ⟨g7, 0, none⟩) (on2 + 1) c7) w7) := Lib.hid (by
      rw [HSE.out]
      exact mo_snoc HPP.out hrow HON2.out hgr7 hown7 hbel7 rfl (HXT.out FV))
    have HX7 := Lib.hid ((hgr7.block bx (Array.getElem?_eq_some_iff.1 HX6.out).1 (fun e => HN4.out.1 e.symm)).trans HX6.out)
    have HN7 : Hid ((Value.slice (some ⟨g7, 0, none⟩) (on2 + 1) c7).ownBlock ≠ some bx) := Lib.hid (by
      have l1 := (Array.getElem?_eq_some_iff.1 HX6.out).1
      intro e
      have e2 : g7 = bx := by simpa [Value.ownBlock] using e
      rcases hat7 with h | h
      · exact HN4.out.1 (by rw [← h, e2])
      · omega)
    have HPU : Hid (((S.take (j + 1)).foldl (stepM sec (L, n)) (false, [])).1 = true) := Lib.hid (by rw [HSE.out])
    clear hown7 hbel7 hgr7 hat7 hrow hbelc hszc y0 y1 t2
    go_wp2_with fail
    go_roundw
    case rel => exact ⟨j + 1, by omega, by go_num, by rw [HPU.out], HM7, HX7, HN7⟩
    case measure => simp [intOf]; omega
set_option maxHeartbeats 16000000 in
set_option maxRecDepth 100000 in
theorem more2_any (S : List Rw) (L : List Lb) (n : Int) (u v : Value) (k : Int) (kx : Nat) (kc : Array Value) (w : World) (hs : Sp RdR 2 w u S) (ht : Sp LbR 2 w v L) (hG : ∀ r ∈ S, labelF r.1 = 0) (hL : labelF L = 0) (hl : S.length ≤ 1000000) (hkx : ∀ W, Below w.heap.size w W → ∃ k1 k2 um ub ux, W.heap[kx]? = some (.cells #[.int .i64 k, k1, k2, um, ub, ux] 38 (0, 0))) :
    Calls Tryz.prog 60 #[u, .agg #[v, .int .i64 n], .func (.func 61) #[] #[.pointer (some ⟨kx, 0, none⟩)]] w (MoP w (moreF (opK k) (L, n) S)) := by
  obtain ⟨m, hm⟩ : ∃ m, S.length = m := ⟨_, rfl⟩
  obtain ⟨so, sc, rfl, -, -⟩ := hs.shapeN hm
  obtain ⟨tl, htl⟩ : ∃ n, L.length = n := ⟨_, rfl⟩
  obtain ⟨ta, tc, rfl, -, -⟩ := ht.shapeN htl
  rw [hm] at hl
  obtain ⟨W, hW⟩ : ∃ W, W = w.alloc (.cells #[.slice ta tl tc, .int .i64 n] 96) := ⟨_, rfl⟩
  have hbW : Below w.heap.size w W := by rw [hW]; exact (Below.refl _ w).alloc (Nat.le_refl _) _
  have hbox : W.heap[w.heap.size]? = some (.cells #[.slice ta tl tc, .int .i64 n] 96 (0, 0)) := by rw [hW]; exact heap_alloc_new w _
  have HTX := Lib.hid (lbtext_any (.slice ta tl tc) L W (ht.below lbR_mono hbW) hL)
  have HTX2 := Lib.hid (fun Wx (x : Rw) vx (h1 : Sp LbR 2 w vx x.1) (h0 : labelF x.1 = 0) (hb : Below w.heap.size w Wx) => lbtext_any vx x.1 Wx (h1.below lbR_mono hb) h0)
  obtain ⟨KY, hKY⟩ : ∃ K, kyL L = K := ⟨_, rfl⟩
  have hKY2 : textM (asM L) = KY := hKY
  rw [hKY2] at HTX
  have HKY := Lib.hid hKY
  have HS := Lib.hid hs
  have HTT : Hid (RdR w (L, n) [.slice ta tl tc, .int .i64 n]) := Lib.hid ⟨_, rfl, ht⟩
  have HM := Lib.hid hm
  have HG := Lib.hid hG
  have HBW := Lib.hid hbW
  have HWW := Lib.hid hW
  obtain ⟨⟨r0, r1⟩, -⟩ := bx2 hbox
  obtain ⟨bx, hbx⟩ : ∃ bx, w.heap.size = bx := ⟨_, rfl⟩
  rw [hbx] at r0 r1 hbox
  have HBX := Lib.hid hbox
  have HBE := Lib.hid hbx
  have hbl : bx < W.heap.size := (Array.getElem?_eq_some_iff.1 hbox).1
  have HKX := Lib.hid hkx
  clear hkx
  clear hs ht hG hL hm htl hW hbW hbox hKY hKY2 hbx
  go_enter Tryz.func60, Tryz.ntmps60
  go_upto_region 1 with (fail)
  rw [HBE.out, ← HWW.out]
  go_wp2_with fail
  refine HTX.out.mono ?_
  rintro e w2 ⟨rfl, hb2⟩
  have HB2 := Lib.hid (HBW.out.trans (hb2.mono HBW.out.size))
  have HBX2 := Lib.hid ((hb2.block bx hbl).trans HBX.out)
  clear hb2 r0 r1
  have H00 : Hid (MoAt w ((S.take 0).foldl (stepM (opK k) (L, n)) (false, [])).2 (.slice none 0 0) w2) := Lib.hid ⟨Ow.nil, HB2.out⟩
  go_wp2_with fail
  go_loopw [8, 9, 18] (fun o p i wr => ∃ j : Nat, j ≤ m ∧ i = .int .i64 j ∧ p = .bool ((S.take j).foldl (stepM (opK k) (L, n)) (false, [])).1 ∧ Hid (MoAt w ((S.take j).foldl (stepM (opK k) (L, n)) (false, [])).2 o wr) ∧ Hid (wr.heap[bx]? = some (.cells #[.slice ta tl tc, .int .i64 n] 96 (0, 0))) ∧ Hid (o.ownBlock ≠ some bx)) (fun _ _ i _ => m - (intOf i).toNat)
  case atStart => exact ⟨0, Nat.zero_le _, rfl, rfl, H00, HBX2, Lib.hid (by simp [Value.ownBlock])⟩
  case round =>
  obtain ⟨j, hj, rfl, rfl, HR, HX, HNB⟩ := hrel
  obtain ⟨st, hst⟩ : ∃ st, (S.take j).foldl (stepM (opK k) (L, n)) (false, []) = st := ⟨_, rfl⟩
  have hol : st.2.length ≤ 2 * m := by
    have h := mo_len (opK k) (L, n) (S.take j) (false, [])
    rw [hst] at h
    have h2 : (S.take j).length ≤ m := by rw [List.length_take, HM.out]; omega
    simp at h
    omega
  rw [hst] at HR ⊢
  obtain ⟨put, out⟩ := st
  simp only at HR hol ⊢
  have HST := Lib.hid hst
  clear hst
  obtain ⟨on, hon⟩ : ∃ k, out.length = k := ⟨_, rfl⟩
  obtain ⟨oo, oc, hu8, -, -⟩ := HR.out.1.sp.shapeN hon
  subst hu8
  rw [hon] at hol
  have HON := Lib.hid hon
  clear hon
  by_cases hlt : j < m
  case neg =>
    obtain rfl : j = m := by omega
    have HFIN : Hid (moreF (opK k) (L, n) S = endM (L, n) (put, out)) := Lib.hid (by
      have h := HST.out
      rw [List.take_of_length_le (by rw [HM.out]; exact Nat.le_refl _)] at h
      unfold moreF
      rw [h])
    cases put with
    | true =>
      have HE : Hid (MoP w (moreF (opK k) (L, n) S) (.returned (.slice oo on oc)) wr) := Lib.hid (by
        rw [HFIN.out]
        exact ⟨_, rfl, HR.out.1, HR.out.2⟩)
      go_wp2_with fail
      go_ret
      exact HE.out
    | false =>
      obtain ⟨⟨x0, x1⟩, -⟩ := bx2 HX.out
      obtain ⟨P, hP1, hP2, hP3, hrow⟩ := HR.out.1
      rw [HON.out] at hrow
      have HPP := Lib.hid (And.intro hP1 (And.intro hP2 hP3))
      have hbelr : Below w.heap.size w wr := HR.out.2
      have hszr : w.heap.size ≤ wr.heap.size := HR.out.2.size
      clear hP1 hP2 hP3
      go_wp2_with (at_builtin; refine append1 [.slice ta tl tc, .int .i64 n] elRd rfl _ _ rfl hrow hbelr hszr rfl rfl rfl (by intro x hx; simp at hx; rcases hx with rfl | rfl <;> rfl) ?c4 ?c5 ?_)
      case c4 => omega
      case c5 => omega
      intro v7 w7 hown7 hbel7 hgr7
      obtain ⟨o7, c7, rfl, -, -, -⟩ := own_shape hown7
      have HE : Hid (MoP w (moreF (opK k) (L, n) S) (.returned (.slice o7 (on + 1) c7)) w7) := Lib.hid (by
        rw [HFIN.out]
        have h := mo_snoc HPP.out hrow HON.out hgr7 hown7 hbel7 rfl HTT.out
        exact ⟨_, rfl, h.1, h.2⟩)
      clear hown7 hbel7 hgr7 hrow hbelr hszr
      go_wp2_with fail
      go_ret
      exact HE.out
  obtain ⟨x, hx⟩ : ∃ x, S[j]? = some x := ⟨_, List.getElem?_eq_getElem (by rw [HM.out]; exact hlt)⟩
  obtain ⟨Lx, Vx⟩ := x
  obtain ⟨b, off, cs, e8, ⟨t, rfl, ht⟩, -, hcell⟩ := (HS.out).get hx
  obtain rfl := e8
  obtain ⟨xl, hxl⟩ : ∃ n, Lx.length = n := ⟨_, rfl⟩
  simp only at ht
  obtain ⟨xa, xc, rfl, -, -⟩ := ht.shapeN hxl
  have c0 := hcell 0 _ rfl
  have c1 := hcell 1 _ rfl
  rw [Nat.add_zero] at c0
  have c0 := (HR.out.2.cell (p := ⟨_, _, none⟩) (cell_lt c0)).trans c0
  have c1 := (HR.out.2.cell (p := ⟨_, _, none⟩) (cell_lt c1)).trans c1
  have hx0 := HG.out _ (List.mem_of_getElem? hx)
  have HXT : Hid (∀ z, RdR w (Lx, z) [.slice xa xl xc, .int .i64 z]) := Lib.hid (fun z => ⟨_, rfl, ht⟩)
  have HNX := Lib.hid (mo_step (f := (opK k)) (r := (L, n)) (s := (false, [])) hx)
  obtain ⟨wb, hwb⟩ : ∃ wb, wb = wr.alloc (.cells #[.slice xa xl xc, .int .i64 Vx] 96) := ⟨_, rfl⟩
  have hBB : Below wr.heap.size wr wb := by rw [hwb]; exact (Below.refl _ wr).alloc (Nat.le_refl _) _
  have hsb : wb.heap[wr.heap.size]? = some (.cells #[.slice xa xl xc, .int .i64 Vx] 96 (0, 0)) := by rw [hwb]; exact heap_alloc_new wr _
  have HRb := Lib.hid (HR.out.below hBB)
  have HXb := Lib.hid ((hBB.block bx (Array.getElem?_eq_some_iff.1 HX.out).1).trans HX.out)
  have HNY : Hid ((Value.slice oo on oc).ownBlock ≠ some wr.heap.size) := Lib.hid (fun e => by
    obtain ⟨P, -, -, -, h4⟩ := HR.out.1
    rw [HON.out] at h4
    have := (h4.lt _ e).2
    omega)
  have HBXY : Hid (bx ≠ wr.heap.size) := Lib.hid (by have := (Array.getElem?_eq_some_iff.1 HX.out).1; omega)
  have HWY : Hid (w.heap.size ≤ wr.heap.size) := Lib.hid HR.out.2.size
  have HTB := Lib.hid (HTX2.out wb (Lx, Vx) _ ht hx0 HRb.out.2)
  obtain ⟨KX, hKX⟩ : ∃ K, kyL Lx = K := ⟨_, rfl⟩
  have hKX2 : textM (asM Lx) = KX := hKX
  simp only at HTB
  rw [hKX2] at HTB
  have HGT := Lib.hid (gt_str KX KY)
  have HEQ := Lib.hid (eq_str KX KY)
  obtain ⟨G, hG⟩ : ∃ G, decide (KY < KX) = G := ⟨_, rfl⟩
  obtain ⟨E, hE⟩ : ∃ E, decide (KX = KY) = E := ⟨_, rfl⟩
  have HSTP : Hid ((S.take (j + 1)).foldl (stepM (opK k) (L, n)) (false, []) = (put || G || E, (out ++ if put = false ∧ G = true then [(L, n)] else []) ++ [if E = true then (Lx, (opK k) Vx n) else (Lx, Vx)])) := Lib.hid (by
    rw [HNX.out, HST.out, ← hG, ← hE]
    unfold stepM
    rw [HKY.out, hKX]
    simp only [decide_eq_true_eq])
  rw [hG] at HGT
  rw [hE] at HEQ
  obtain ⟨TX, hTX⟩ : ∃ T, mkS KX = T := ⟨_, rfl⟩
  obtain ⟨TY, hTY⟩ : ∃ T, mkS KY = T := ⟨_, rfl⟩
  have t1 : (!(Op.bytesLess TX.toList TY.toList) && !(TX.toList == TY.toList)) = G := by rw [← hTX, ← hTY, mkS_list, mkS_list]; exact HGT.out
  have t2 : (TX.toList == TY.toList) = E := by rw [← hTX, ← hTY, mkS_list, mkS_list]; exact HEQ.out
  rw [hTX] at HTB
  have hj0 : (0 : Int) ≤ (j : Int) := by omega
  have hj1 : (j : Int) < (m : Int) := by omega
  obtain ⟨⟨s0, s1⟩, -⟩ := bx2 hsb
  have HSB := Lib.hid hsb
  have hyl := (Array.getElem?_eq_some_iff.1 hsb).1
  rw [hTY]
  have HTE := Lib.hid (And.intro t1 t2)
  clear hcell ht hx hx0 hxl hsb hBB hKX hKX2 hG hE HGT HEQ HKY hTX hTY t1 t2
  go_upto_region 7 with (fail)
  rw [← hwb]
  clear hwb c0 c1
  generalize hby : wr.heap.size = yb at *
  go_wp2_with fail
  refine HTB.out.mono ?_
  rintro e w3 ⟨rfl, hb3⟩
  have HR3 := Lib.hid (HRb.out.below hb3)
  have HX3 := Lib.hid ((hb3.block bx (Array.getElem?_eq_some_iff.1 HXb.out).1).trans HXb.out)
  have HY3 := Lib.hid ((hb3.block yb hyl).trans HSB.out)
  clear hb3 s0 s1
  -- the new row ahead of x
  obtain ⟨put2, hput2⟩ : ∃ p, (put || G) = p := ⟨_, rfl⟩
  obtain ⟨out2, hout2⟩ : ∃ o, (out ++ if put = false ∧ G = true then [(L, n)] else []) = o := ⟨_, rfl⟩
  rw [hput2, hout2] at HSTP
  have HP2 := Lib.hid (And.intro hput2 hout2)
  have ho2l : out2.length ≤ 2 * m + 1 := by rw [← hout2, List.length_append, HON.out]; split <;> simp <;> omega
  clear hput2 hout2
  obtain ⟨T, hT⟩ : ∃ T, (!put && G) = T := ⟨_, rfl⟩
  have HTT2 := Lib.hid hT
  clear hT
  go_upto_region 8 with (fail)
  go_cut [31] (fun t wx => t = .bool T ∧ w3 = wx)
  case first =>
    have t1 := HTE.out.1
    cases put with
    | true =>
      obtain rfl : T = false := by rw [← HTT2.out]; rfl
      go_wp2_with fail
      go_meet
      exact ⟨rfl, rfl⟩
    | false =>
      obtain rfl : T = G := by rw [← HTT2.out]; rfl
      go_wp2_with fail
      go_meet
      exact ⟨rfl, rfl⟩
  obtain ⟨rfl, hwx⟩ := hcut
  subst hwx
  go_upto_if 31 with (fail)
  go_cut [8, 9] (fun o p wx => p = .bool put2 ∧ Hid (MoAt w out2 o wx) ∧ Hid (wx.heap[bx]? = some (.cells #[.slice ta tl tc, .int .i64 n] 96 (0, 0))) ∧ Hid (wx.heap[yb]? = some (.cells #[.slice xa xl xc, .int .i64 Vx] 96 (0, 0))) ∧ Hid (o.ownBlock ≠ some bx ∧ o.ownBlock ≠ some yb))
  case first =>
    cases put with
    | true =>
      obtain rfl : T = false := by rw [← HTT2.out]; rfl
      have HM4 : Hid (MoAt w out2 (.slice oo on oc) w3) := Lib.hid (by
        rw [← HP2.out.2, if_neg (by simp), List.append_nil]
        exact HR3.out)
      have e1 : put2 = true := by rw [← HP2.out.1]; rfl
      subst e1
      go_wp2_with fail
      go_meet
      exact ⟨by first | rfl | trivial, HM4, HX3, HY3, Lib.hid ⟨HNB.out, HNY.out⟩⟩
    | false =>
      cases G with
      | false =>
        obtain rfl : T = false := by rw [← HTT2.out]; rfl
        have HM4 : Hid (MoAt w out2 (.slice oo on oc) w3) := Lib.hid (by
          rw [← HP2.out.2, if_neg (by simp), List.append_nil]
          exact HR3.out)
        have e1 : put2 = false := by rw [← HP2.out.1]; rfl
        subst e1
        go_wp2_with fail
        go_meet
        exact ⟨by first | rfl | trivial, HM4, HX3, HY3, Lib.hid ⟨HNB.out, HNY.out⟩⟩
      | true =>
        obtain rfl : T = true := by rw [← HTT2.out]; rfl
        have e1 : put2 = true := by rw [← HP2.out.1]; rfl
        subst e1
        obtain ⟨⟨x0, x1⟩, -⟩ := bx2 HX3.out
        obtain ⟨P, hP1, hP2, hP3, hrow⟩ := HR3.out.1
        rw [HON.out] at hrow
        have HPP := Lib.hid (And.intro hP1 (And.intro hP2 hP3))
        have hbelr : Below w.heap.size w w3 := HR3.out.2
        have hszr : w.heap.size ≤ w3.heap.size := HR3.out.2.size
        clear hP1 hP2 hP3
        go_wp2_with (at_builtin; refine append2 [.slice ta tl tc, .int .i64 n] elRd rfl _ _ rfl hrow hbelr hszr rfl rfl rfl (by intro x hx; simp at hx; rcases hx with rfl | rfl <;> rfl) ?c4 ?c5 ?_)
        case c4 => omega
        case c5 => omega
        intro g7 c7 w7 hown7 hbel7 hgr7 hat7
        have HM7 : Hid (MoAt w out2 (.slice (some ⟨g7, 0, none⟩) (on + 1) c7) w7) := Lib.hid (by
          rw [← HP2.out.2, if_pos (by simp)]
          exact mo_snoc HPP.out hrow HON.out hgr7 hown7 hbel7 rfl HTT.out)
        have HX7 := Lib.hid ((hgr7.block bx (Array.getElem?_eq_some_iff.1 HX3.out).1 (fun e => HNB.out e.symm)).trans HX3.out)
        have HY7 := Lib.hid ((hgr7.block yb (Array.getElem?_eq_some_iff.1 HY3.out).1 (fun e => HNY.out e.symm)).trans HY3.out)
        have HN7 : Hid ((Value.slice (some ⟨g7, 0, none⟩) (on + 1) c7).ownBlock ≠ some bx ∧ (Value.slice (some ⟨g7, 0, none⟩) (on + 1) c7).ownBlock ≠ some yb) := Lib.hid (by
          have l1 := (Array.getElem?_eq_some_iff.1 HX3.out).1
          have l2 := (Array.getElem?_eq_some_iff.1 HY3.out).1
          constructor
          · intro e
            have e2 : g7 = bx := by simpa [Value.ownBlock] using e
            rcases hat7 with h | h
            · exact HNB.out (by rw [← h, e2])
            · omega
          · intro e
            have e2 : g7 = yb := by simpa [Value.ownBlock] using e
            rcases hat7 with h | h
            · exact HNY.out (by rw [← h, e2])
            · omega)
        clear hown7 hbel7 hgr7 hat7 hrow hbelr hszr x0 x1
        go_wp2_with fail
        go_meet
        exact ⟨by first | rfl | trivial, HM7, HX7, HY7, HN7⟩
  obtain ⟨rfl, HM4, HX4, HY4, HN4⟩ := hcut
  obtain ⟨on2, hon2⟩ : ∃ k, out2.length = k := ⟨_, rfl⟩
  obtain ⟨qo, qc, hq8, -, -⟩ := HM4.out.1.sp.shapeN hon2
  subst hq8
  rw [hon2] at ho2l
  have HON2 := Lib.hid hon2
  clear hon2 HR3 HX3 HY3
  obtain ⟨wq, hwq⟩ : ∃ x, x = wc := ⟨_, rfl⟩
  have t2 := HTE.out.2
  obtain ⟨⟨y0, y1⟩, ⟨f0, f1⟩⟩ := bx2 HY4.out
  obtain ⟨⟨x0, x1⟩, -⟩ := bx2 HX4.out
  have hbelc : Below w.heap.size w wc := HM4.out.2
  have hszc : w.heap.size ≤ wc.heap.size := HM4.out.2.size
  cases E with
  | false =>
    have HSE : Hid ((S.take (j + 1)).foldl (stepM (opK k) (L, n)) (false, []) = (put2, out2 ++ [(Lx, Vx)])) := Lib.hid (by rw [HSTP.out, Bool.or_false]; rfl)
    obtain ⟨P, hP1, hP2, hP3, hrow⟩ := HM4.out.1
    rw [HON2.out] at hrow
    have HPP := Lib.hid (And.intro hP1 (And.intro hP2 hP3))
    clear hP1 hP2 hP3
    go_wp2_with (at_builtin; refine append2 [.slice xa xl xc, .int .i64 Vx] elRd rfl _ _ rfl hrow hbelc hszc rfl rfl rfl (by intro x hx; simp at hx; rcases hx with rfl | rfl <;> rfl) ?c4 ?c5 ?_)
    case c4 => omega
    case c5 => omega
    intro g7 c7 w7 hown7 hbel7 hgr7 hat7
    have HM7 : Hid (MoAt w ((S.take (j + 1)).foldl (stepM (opK k) (L, n)) (false, [])).2 (.slice (some ⟨g7, 0, none⟩) (on2 + 1) c7) w7) := Lib.hid (by
      rw [HSE.out]
      exact mo_snoc HPP.out hrow HON2.out hgr7 hown7 hbel7 rfl (HXT.out Vx))
    have HX7 := Lib.hid ((hgr7.block bx (Array.getElem?_eq_some_iff.1 HX4.out).1 (fun e => HN4.out.1 e.symm)).trans HX4.out)
    have HN7 : Hid ((Value.slice (some ⟨g7, 0, none⟩) (on2 + 1) c7).ownBlock ≠ some bx) := Lib.hid (by
      have l1 := (Array.getElem?_eq_some_iff.1 HX4.out).1
      intro e
      have e2 : g7 = bx := by simpa [Value.ownBlock] using e
      rcases hat7 with h | h
      · exact HN4.out.1 (by rw [← h, e2])
      · omega)
    have HPU : Hid (((S.take (j + 1)).foldl (stepM (opK k) (L, n)) (false, [])).1 = put2) := Lib.hid (by rw [HSE.out])
    clear hown7 hbel7 hgr7 hat7 hrow hbelc hszc x0 x1 y0 y1 f0 f1 t2
    go_wp2_with fail
    go_roundw
    case rel => exact ⟨j + 1, by omega, by go_num, by rw [HPU.out], HM7, HX7, HN7⟩
    case measure => simp [intOf]; omega
  | true =>
    have HSE : Hid ((S.take (j + 1)).foldl (stepM (opK k) (L, n)) (false, []) = (true, out2 ++ [(Lx, (opK k) Vx n)])) := Lib.hid (by rw [HSTP.out, Bool.or_true]; rfl)
    have HCL := Lib.hid (by obtain ⟨k1, k2, um, ub, ux, hk⟩ := HKX.out wc hbelc; exact sum_any Vx n k wc hk)
    obtain ⟨FV, hFV⟩ : ∃ z, (opK k) Vx n = z := ⟨_, rfl⟩
    rw [hFV] at HSE HCL
    clear hFV
    go_upto_region 13 with (go_at_call 61; refine HCL.out.mono ?_; rintro e w5 ⟨rfl, rfl⟩)
    obtain ⟨w6, hw6⟩ : ∃ w6, w6 = wc.setCell ⟨yb, 1, none⟩ (.int .i64 FV) := ⟨_, rfl⟩
    rw [← hw6]
    have HM6 : Hid (MoAt w out2 (.slice qo on2 qc) w6) := Lib.hid (by rw [hw6]; exact mo_box HM4.out HWY.out (Or.inr HN4.out.2))
    have hy6 : w6.heap[yb]? = some (.cells #[.slice xa xl xc, .int .i64 FV] 96 (0, 0)) := by rw [hw6]; exact row_setCell 1 _ HY4.out
    have HX6 : Hid (w6.heap[bx]? = some (.cells #[.slice ta tl tc, .int .i64 n] 96 (0, 0))) := Lib.hid (by rw [hw6]; exact row_setCell_other _ HX4.out HBXY.out)
    clear hw6 hbelc hszc y0 y1 f0 f1 x0 x1
    obtain ⟨⟨y0, y1⟩, -⟩ := bx2 hy6
    have hbelc : Below w.heap.size w w6 := HM6.out.2
    have hszc : w.heap.size ≤ w6.heap.size := HM6.out.2.size
    obtain ⟨P, hP1, hP2, hP3, hrow⟩ := HM6.out.1
    rw [HON2.out] at hrow
    have HPP := Lib.hid (And.intro hP1 (And.intro hP2 hP3))
    clear hP1 hP2 hP3 hy6
    go_wp2_with (at_builtin; refine append2 [.slice xa xl xc, .int .i64 FV] elRd rfl _ _ rfl hrow hbelc hszc rfl rfl rfl (by intro x hx; simp at hx; rcases hx with rfl | rfl <;> rfl) ?c4 ?c5 ?_)
    case c4 => omega
    case c5 => omega
    intro g7 c7 w7 hown7 hbel7 hgr7 hat7
    have HM7 : Hid (MoAt w ((S.take (j + 1)).foldl (stepM (opK k) (L, n)) (false, [])).2 (.slice (some ⟨g7, 0, none⟩) (on2 + 1) c7) w7) := Lib.hid (by
      rw [HSE.out]
      exact mo_snoc HPP.out hrow HON2.out hgr7 hown7 hbel7 rfl (HXT.out FV))
    have HX7 := Lib.hid ((hgr7.block bx (Array.getElem?_eq_some_iff.1 HX6.out).1 (fun e => HN4.out.1 e.symm)).trans HX6.out)
    have HN7 : Hid ((Value.slice (some ⟨g7, 0, none⟩) (on2 + 1) c7).ownBlock ≠ some bx) := Lib.hid (by
      have l1 := (Array.getElem?_eq_some_iff.1 HX6.out).1
      intro e
      have e2 : g7 = bx := by simpa [Value.ownBlock] using e
      rcases hat7 with h | h
      · exact HN4.out.1 (by rw [← h, e2])
      · omega)
    have HPU : Hid (((S.take (j + 1)).foldl (stepM (opK k) (L, n)) (false, [])).1 = true) := Lib.hid (by rw [HSE.out])
    clear hown7 hbel7 hgr7 hat7 hrow hbelc hszc y0 y1 t2
    go_wp2_with fail
    go_roundw
    case rel => exact ⟨j + 1, by omega, by go_num, by rw [HPU.out], HM7, HX7, HN7⟩
    case measure => simp [intOf]; omega
end Go.Proofs.YtjmplhkdohlbcaaGreatDoor.Evl
/-
  Two structs whose fields are all int64, held against each other.
-/
namespace Go.Gh
open Go.RowKit
set_option linter.unusedVariables false

/-- A struct type of k int64 fields, compared field by field. -/
def ints64 (P : Program) (t : TypeId) (k : Nat) : Bool :=
  (match P.underlying t with
  | some (.struct fs) => fs.size == k && (List.range k).all fun j => match fs[j]? with
    | some f => f.name != "_" && f.offset == j && (match P.underlying f.type with | some (.int .i64) => true | _ => false)
    | none => false
  | _ => false) && !P.stoodInHeld t && !P.eqGuardType P.depth t
theorem ints64_of {P : Program} {t : TypeId} {k : Nat} (h : ints64 P t k = true) : ∃ fs : Array Field, P.underlying t = some (.struct fs) ∧ fs.size = k ∧ P.stoodInHeld t = false ∧ P.eqGuardType P.depth t = false ∧
    ∀ (j : Nat) (f : Field), fs[j]? = some f → f.name ≠ "_" ∧ f.offset = j ∧ P.underlying f.type = some (.int .i64) := by
  unfold ints64 at h
  rw [Bool.and_eq_true, Bool.and_eq_true] at h
  obtain ⟨⟨h1, h2⟩, h3⟩ := h
  split at h1
  · rename_i fs hu
    rw [Bool.and_eq_true] at h1
    refine ⟨fs, hu, by simpa using h1.1, by simpa using h2, by simpa using h3, fun j f hj => ?_⟩
    have hk : fs.size = k := by simpa using h1.1
    have hjl : j < k := by rw [← hk]; exact (Array.getElem?_eq_some_iff.1 hj).1
    have := List.all_eq_true.1 h1.2 j (List.mem_range.2 hjl)
    rw [hj] at this
    simp only [Bool.and_eq_true] at this
    refine ⟨by simpa using this.1.1, by simpa using this.1.2, ?_⟩
    have h4 := this.2
    split at h4
    · assumption
    · simp at h4
  · simp at h1
theorem run_part_int {P : Program} {w : World} {t : TypeId} (hu : P.underlying t = some (.int .i64)) {xs : Array Value} {off : Nat} {v : Value} (hx : xs[off]? = some v) : (part t xs off).run P w = .ok v w := by
  simp [part, isAgg, run_underlying hu, hx]
theorem run_eqFields_ints {P : Program} {w : World} {d : Nat} {l m : List Int} : ∀ (fs : List Field) (j : Nat), (∀ (i : Nat) (f : Field), fs[i]? = some f → f.name ≠ "_" ∧ f.offset = j + i ∧ P.underlying f.type = some (.int .i64)) →
    l.length = j + fs.length → m.length = j + fs.length → (Op.eqFields (d + 1) (l.map (Value.int .i64)).toArray (m.map (Value.int .i64)).toArray fs).run P w = .ok (decide (l.drop j = m.drop j)) w
  | [], j, h, hl, hm => by
    simp only [List.length_nil, Nat.add_zero] at hl hm
    rw [List.drop_of_length_le (by omega), List.drop_of_length_le (by omega)]
    simp [Op.eqFields]
  | f :: fs, j, h, hl, hm => by
    obtain ⟨hn, ho, hu⟩ := h 0 f rfl
    rw [Nat.add_zero] at ho
    rw [List.length_cons] at hl hm
    have jl : j < l.length := by omega
    have jm : j < m.length := by omega
    have p1 : (part f.type (l.map (Value.int .i64)).toArray f.offset).run P w = .ok (.int .i64 l[j]) w := run_part_int hu (by rw [ho]; simp [jl])
    have p2 : (part f.type (m.map (Value.int .i64)).toArray f.offset).run P w = .ok (.int .i64 m[j]) w := run_part_int hu (by rw [ho]; simp [jm])
    have ih := run_eqFields_ints (P := P) (w := w) (d := d) (l := l) (m := m) fs (j + 1) (fun i g hg => by have := h (i + 1) g hg; rw [show j + 1 + i = j + (i + 1) from by omega]; exact this) (by omega) (by omega)
    simp only [Op.eqFields, hn, ne_eq, not_false_eq_true, if_true, Sem.run_bind, p1, p2, Result.andThen_ok, run_equalIn_int w d f.type .i64 .i64 l[j] m[j] hu]
    rw [List.drop_eq_getElem_cons jl, List.drop_eq_getElem_cons jm]
    generalize l.drop (j + 1) = A at *
    generalize m.drop (j + 1) = B at *
    by_cases he : l[j] = m[j]
    · rw [he]
      simp only [beq_self_eq_true, Bool.not_true, Bool.false_eq_true, if_false, List.cons.injEq, true_and]
      exact ih
    · have : (l[j] == m[j]) = false := by simpa using he
      simp only [this, Bool.not_false, if_true, List.cons.injEq, he, false_and, decide_false]
      rfl
theorem run_equal_ints {P : Program} {w : World} {t : TypeId} {k : Nat} (ht : ints64 P t k = true) {l m : List Int} (hl : l.length = k) (hm : m.length = k) :
    (Op.equalIn 10000 t (.agg (l.map (Value.int .i64)).toArray) (.agg (m.map (Value.int .i64)).toArray)).run P w = .ok (decide (l = m)) w := by
  obtain ⟨fs, hu, hk, hs, _, hf⟩ := ints64_of ht
  have hfo : P.fieldsOf t = fs := by unfold Program.fieldsOf; rw [hu]
  rw [show (10000 : Nat) = 9999 + 1 from rfl, run_equalIn_struct w 9999 t _ _ (by rw [hfo]; exact hu) hs, hfo]
  have := run_eqFields_ints (P := P) (w := w) (d := 9998) (l := l) (m := m) fs.toList 0 (fun i f h => by rw [Nat.zero_add]; exact hf i f (by simpa using h)) (by simp; omega) (by simp; omega)
  simpa using this
theorem exec_neq_ints {P : Program} {ρ : Operand → Value} {o : Oper} {w : World} {t t' : TypeId} {x y : Operand} {k : Nat} (ho : o.op = .binOp .neq t x y t') (ht : ints64 P t k = true) {l m : List Int} (hl : l.length = k) (hm : m.length = k)
    (hx : ρ x = .agg (l.map (Value.int .i64)).toArray) (hy : ρ y = .agg (m.map (Value.int .i64)).toArray) : (execOp ρ o).run P w = .ok (.value (.bool (!decide (l = m)))) w := by
  obtain ⟨_, _, _, _, hg, _⟩ := ints64_of ht
  unfold execOp
  rw [ho]
  simp only [Sem.run_bind, hx, hy, run_eqGuard_agg w _ _ _ _ _ _ hg, Result.andThen_ok, run_neq_struct, run_equal_ints ht hl hm]
  rfl
theorem quiet_of_run {P : Program} {o : Oper} {a : Act} {C : World → Prop} {K : Act → Prop} (v : Value) (h : ∀ w, (execOp a.eval o).run P w = .ok (.value v) w) (hk : K (a.put o.dst v)) : o.quiet P a C K :=
  ⟨v, fun w _ => by unfold Oper.quietAt; rw [h w]; exact ⟨rfl, rfl⟩, hk⟩
/-- Two lists are alike up to k. -/
def sameUp (l m : List (List Int)) (k : Nat) : Prop := ∀ i, i < k → l.getD i [] = m.getD i []
theorem sameUp_succ {l m : List (List Int)} {k : Nat} (h : sameUp l m k) (hk : l.getD k [] = m.getD k []) : sameUp l m (k + 1) := by
  intro i hi
  rcases Nat.lt_or_eq_of_le (Nat.le_of_lt_succ hi) with h' | h'
  · exact h i h'
  · rw [h']; exact hk
theorem same_all {l m : List (List Int)} (hlen : l.length = m.length) (h : sameUp l m l.length) : l = m := by
  refine List.ext_getElem hlen fun i h1 h2 => ?_
  have := h i h1
  rwa [List.getD_eq_getElem?_getD, List.getD_eq_getElem?_getD, List.getElem?_eq_getElem h1, List.getElem?_eq_getElem h2] at this
end Go.Gh
/-
  Two structs whose fields are integers and strings, held against each other.
-/
namespace Go.Gh
open Go.RowKit
set_option linter.unusedVariables false
def mixTy : Option TypeDesc → Bool
  | some (.int _) => true
  | some .string => true
  | _ => false
/-- A struct type of k fields of one cell each, integers or strings. -/
def mixed (P : Program) (t : TypeId) (k : Nat) : Bool :=
  (match P.underlying t with
  | some (.struct fs) => fs.size == k && (List.range k).all fun j => match fs[j]? with
    | some f => f.name != "_" && f.offset == j && mixTy (P.underlying f.type)
    | none => false
  | _ => false) && !P.stoodInHeld t && !P.eqGuardType P.depth t
/-- A cell is of its field's kind. -/
def cellOk (d : Option TypeDesc) (v : Value) : Prop := match d, v with
  | some (.int k), .int k' _ => k = k'
  | some .string, .string _ => True
  | _, _ => False
def eqCell : Value → Value → Bool
  | .int _ a, .int _ b => a == b
  | .string a, .string b => a.toList == b.toList
  | _, _ => false
def eqCells : List Value → List Value → Bool
  | [], [] => true
  | a :: l, b :: m => eqCell a b && eqCells l m
  | _, _ => false
theorem mixed_of {P : Program} {t : TypeId} {k : Nat} (h : mixed P t k = true) : ∃ fs : Array Field, P.underlying t = some (.struct fs) ∧ fs.size = k ∧ P.stoodInHeld t = false ∧ P.eqGuardType P.depth t = false ∧
    ∀ (j : Nat) (f : Field), fs[j]? = some f → f.name ≠ "_" ∧ f.offset = j ∧ mixTy (P.underlying f.type) = true := by
  unfold mixed at h
  rw [Bool.and_eq_true, Bool.and_eq_true] at h
  obtain ⟨⟨h1, h2⟩, h3⟩ := h
  split at h1
  · rename_i fs hu
    rw [Bool.and_eq_true] at h1
    refine ⟨fs, hu, by simpa using h1.1, by simpa using h2, by simpa using h3, fun j f hj => ?_⟩
    have hk : fs.size = k := by simpa using h1.1
    have hjl : j < k := by rw [← hk]; exact (Array.getElem?_eq_some_iff.1 hj).1
    have := List.all_eq_true.1 h1.2 j (List.mem_range.2 hjl)
    rw [hj] at this
    simp only [Bool.and_eq_true] at this
    exact ⟨by simpa using this.1.1, by simpa using this.1.2, this.2⟩
  · simp at h1
theorem run_part_mix {P : Program} {w : World} {t : TypeId} (hu : mixTy (P.underlying t) = true) {xs : Array Value} {off : Nat} {v : Value} (hx : xs[off]? = some v) : (part t xs off).run P w = .ok v w := by
  cases h : P.underlying t with
  | none => rw [h] at hu; simp [mixTy] at hu
  | some d =>
    rw [h] at hu
    cases d <;> simp [mixTy] at hu <;> simp [part, isAgg, run_underlying h, hx]
theorem run_equal_cell {P : Program} {w : World} {t : TypeId} {d : Nat} {a b : Value} (ha : cellOk (P.underlying t) a) (hb : cellOk (P.underlying t) b) : (Op.equalIn (d + 1) t a b).run P w = .ok (eqCell a b) w := by
  cases h : P.underlying t with
  | none => rw [h] at ha; cases a <;> simp [cellOk] at ha
  | some D =>
    rw [h] at ha hb
    cases D <;> cases a <;> simp [cellOk] at ha <;> cases b <;> simp [cellOk] at hb
    · subst ha
      subst hb
      exact run_equalIn_int w d t _ _ _ _ h
    · exact run_equalIn_string w d t _ _ h
theorem run_eqFields_mix {P : Program} {w : World} {d : Nat} {l m : List Value} : ∀ (fs : List Field) (j : Nat), (∀ (i : Nat) (f : Field), fs[i]? = some f → f.name ≠ "_" ∧ f.offset = j + i ∧ mixTy (P.underlying f.type) = true) →
    (∀ (i : Nat) (f : Field) (v : Value), fs[i]? = some f → l[j + i]? = some v → cellOk (P.underlying f.type) v) → (∀ (i : Nat) (f : Field) (v : Value), fs[i]? = some f → m[j + i]? = some v → cellOk (P.underlying f.type) v) →
    l.length = j + fs.length → m.length = j + fs.length → (Op.eqFields (d + 1) l.toArray m.toArray fs).run P w = .ok (eqCells (l.drop j) (m.drop j)) w
  | [], j, h, _, _, hl, hm => by
    simp only [List.length_nil, Nat.add_zero] at hl hm
    rw [List.drop_of_length_le (by omega), List.drop_of_length_le (by omega)]
    simp [Op.eqFields, eqCells]
  | f :: fs, j, h, ca, cb, hl, hm => by
    obtain ⟨hn, ho, hu⟩ := h 0 f rfl
    rw [Nat.add_zero] at ho
    rw [List.length_cons] at hl hm
    have jl : j < l.length := by omega
    have jm : j < m.length := by omega
    have p1 : (part f.type l.toArray f.offset).run P w = .ok l[j] w := run_part_mix hu (by rw [ho]; simp [jl])
    have p2 : (part f.type m.toArray f.offset).run P w = .ok m[j] w := run_part_mix hu (by rw [ho]; simp [jm])
    have k1 := ca 0 f l[j] rfl (by rw [Nat.add_zero]; exact List.getElem?_eq_getElem jl)
    have k2 := cb 0 f m[j] rfl (by rw [Nat.add_zero]; exact List.getElem?_eq_getElem jm)
    have sh : ∀ i, j + 1 + i = j + (i + 1) := fun i => by omega
    have ih := run_eqFields_mix (P := P) (w := w) (d := d) (l := l) (m := m) fs (j + 1) (fun i g hg => by have := h (i + 1) g hg; rw [sh]; exact this) (fun i g v hg hv => ca (i + 1) g v hg (by rw [sh] at hv; exact hv)) (fun i g v hg hv => cb (i + 1) g v hg (by rw [sh] at hv; exact hv)) (by omega) (by omega)
    simp only [Op.eqFields, hn, ne_eq, not_false_eq_true, if_true, Sem.run_bind, p1, p2, Result.andThen_ok, run_equal_cell k1 k2]
    rw [List.drop_eq_getElem_cons jl, List.drop_eq_getElem_cons jm, eqCells]
    cases eqCell l[j] m[j] with
    | true => simpa using ih
    | false => simp
def fieldDesc (P : Program) (t : TypeId) (i : Nat) : Option TypeDesc := match P.underlying t with
  | some (.struct fs) => (fs[i]?).bind fun f => P.underlying f.type
  | _ => none
theorem fieldDesc_at {P : Program} {t : TypeId} {fs : Array Field} {i : Nat} {f : Field} (hu : P.underlying t = some (.struct fs)) (hf : fs[i]? = some f) : fieldDesc P t i = P.underlying f.type := by
  unfold fieldDesc
  rw [hu]
  simp only [hf, Option.bind_some]
/-- The cells are of the fields' kinds. -/
def rowOk (P : Program) (t : TypeId) (l : List Value) : Prop := ∀ (i : Nat) (v : Value), l[i]? = some v → cellOk (fieldDesc P t i) v
theorem run_equal_mix {P : Program} {w : World} {t : TypeId} {k : Nat} (ht : mixed P t k = true) {l m : List Value} (hl : l.length = k) (hm : m.length = k) (hlo : rowOk P t l) (hmo : rowOk P t m) :
    (Op.equalIn 10000 t (.agg l.toArray) (.agg m.toArray)).run P w = .ok (eqCells l m) w := by
  obtain ⟨fs, hu, hk, hs, _, hf⟩ := mixed_of ht
  have hfo : P.fieldsOf t = fs := by unfold Program.fieldsOf; rw [hu]
  rw [show (10000 : Nat) = 9999 + 1 from rfl, run_equalIn_struct w 9999 t _ _ (by rw [hfo]; exact hu) hs, hfo]
  have := run_eqFields_mix (P := P) (w := w) (d := 9998) (l := l) (m := m) fs.toList 0 (fun i f h => by rw [Nat.zero_add]; exact hf i f (by simpa using h)) (fun i f v h hv => by rw [← fieldDesc_at hu (by simpa using h)]; exact hlo i v (by rw [Nat.zero_add] at hv; exact hv)) (fun i f v h hv => by rw [← fieldDesc_at hu (by simpa using h)]; exact hmo i v (by rw [Nat.zero_add] at hv; exact hv)) (by simp; omega) (by simp; omega)
  simpa using this
theorem exec_neq_mix {P : Program} {ρ : Operand → Value} {o : Oper} {w : World} {t t' : TypeId} {x y : Operand} {k : Nat} (ho : o.op = .binOp .neq t x y t') (ht : mixed P t k = true) {l m : List Value} (hl : l.length = k) (hm : m.length = k) (hlo : rowOk P t l) (hmo : rowOk P t m)
    (hx : ρ x = .agg l.toArray) (hy : ρ y = .agg m.toArray) : (execOp ρ o).run P w = .ok (.value (.bool (!eqCells l m))) w := by
  obtain ⟨_, _, _, _, hg, _⟩ := mixed_of ht
  unfold execOp
  rw [ho]
  simp only [Sem.run_bind, hx, hy, run_eqGuard_agg w _ _ _ _ _ _ hg, Result.andThen_ok, run_neq_struct, run_equal_mix ht hl hm hlo hmo]
  rfl
theorem eqCells_self {l : List Value} (h : ∀ v ∈ l, (∃ k a, v = .int k a) ∨ ∃ s, v = .string s) : eqCells l l = true := by
  induction l with
  | nil => rfl
  | cons v l ih =>
    rw [eqCells, ih (fun u hu => h u (by simp [hu]))]
    rcases h v (by simp) with ⟨k, a, rfl⟩ | ⟨s, rfl⟩
    · simp [eqCell]
    · simp [eqCell]
end Go.Gh
