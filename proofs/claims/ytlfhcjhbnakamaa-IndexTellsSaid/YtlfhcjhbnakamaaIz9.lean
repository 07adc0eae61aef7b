/-
  The index: the walks of slices.Clone at labels, New.
-/
import Derived.Test.YtlfhcjhbnakamaaIz5
import Derived.Test.YtlfhcjhbnakamaaIz6
import Derived.Test.YtlfhcjhbnakamaaIz8
import Derived.Lib.SmallJoins
import Derived.Deep.RegionHeld3
import Derived.Maps.OwnOps
import Derived.Shelf.Lay
import Derived.Shelf.LaySoft
import Derived.Shelf.LaysM
import Derived.Shelf.Strings.Search1
import Derived.Shelf.Strings.Search2
import Derived.Shelf.Strings.Search3
import Derived.Test.YtlfhcjhbnakamaaProg
import Derived.Shelf.Strings.Prefix
import Derived.Ground.Names2Prog
namespace Go.Proofs.Ytlfhcjhbnakamaa.Iy
open Go.RowKit Go.Gh Go.Maps Go.WideShapes Go.Proofs.Ytlfhcjhbnakamaa.Rk Go.Proofs.Ytlfhcjhbnakamaa.Lab
set_option linter.unusedVariables false
set_option linter.unusedSimpArgs false
theorem infoLb : (Try.prog.info? 67).map (fun i => (i.zero, i.size, i.bytes)) = some (some (.agg #[.string ByteArray.empty, .string ByteArray.empty]), 2, 32) := by kernel_rfl
theorem elLb : Elem Try.prog 63 67 2 32 := elem_of Try.underlying63 infoLb rfl (by decide)
theorem infoLs : (Try.prog.info? 63).map (fun i => (i.zero, i.size, i.bytes)) = some (some (.slice none 0 0), 1, 24) := by kernel_rfl
theorem elLs : Elem Try.prog 58 63 1 24 := elem_of Try.underlying58 infoLs rfl (by decide)
theorem lb_one {w : World} {x : Lb} {c : List Value} (h : LbR w x c) : ∀ u ∈ c, u.oneCell' = true := by
  obtain ⟨rfl, _⟩ := h
  intro u hu
  simp at hu
  rcases hu with rfl | rfl <;> rfl
theorem pc_one {P : List (Lb × List Value)} (h : ∀ p ∈ P, ∀ u ∈ p.2, u.oneCell' = true) : ∀ u ∈ pc P, u.oneCell' = true := by
  intro u hu
  unfold pc at hu
  obtain ⟨p, hp, hu⟩ := List.mem_flatMap.1 hu
  exact h p hp u hu
set_option maxRecDepth 100000 in
theorem clone_lb (v : Value) (L : List Lb) (w : World) (hs : Sp LbR 2 w v L) (hl : L.length ≤ 1000) : Calls Try.prog 61 #[v] w fun e w' =>
    ∃ v', e = .returned v' ∧ Ow LbR 2 67 w.heap.size w' v' L ∧ Below w.heap.size w w' := by
  obtain ⟨P, hP1, hP2, hP3, hv⟩ := hs
  obtain ⟨n, hn⟩ : ∃ n, L.length = n := ⟨_, rfl⟩
  rw [hn] at hv hl
  have hpl : P.length = n := by rw [← hn, ← hP1, List.length_map]
  obtain ⟨ao, c, rfl, hnc, hc, hlen⟩ := hv.shape
  have h1 := pc_one (fun p hp => lb_one (hP3 p hp))
  have HP := Lib.hid (And.intro hP1 (And.intro hP2 hP3))
  cases ao with
  | none =>
    have hn0 : n = 0 := by
      obtain ⟨ao', cap, h1, h2, _, h4, _, h6⟩ := hv
      simp at h1
      have := h4 h1.1.symm
      omega
    subst hn0
    have hl0 : L = [] := List.length_eq_zero_iff.1 hn
    subst hl0
    have he := Lib.run_eql_slice_nil (P := Try.prog) w 63 67 none 0 c 0 0 Try.underlying63
    clear hP1 hP2 hP3 h1 hv
    go_enter Try.func61, Try.ntmps61
    go_wp2_with fail
    go_ret
    exact ⟨_, rfl, Ow.nil, Below.refl _ _⟩
  | some a =>
    have he := Lib.run_eql_slice_nil (P := Try.prog) w 63 67 (some a) n c 0 0 Try.underlying63
    have ho := own_build (e := 67) (size := 2) (n := 0) w [] (Nat.le_refl _) rfl (by decide)
    have hs2 := hv.alloc (Obj.cells ([] : List Value).toArray 67)
    have HN := Lib.hid hl
    clear hlen hP1 hP2 hP3 hl
    go_enter Try.func61, Try.ntmps61
    go_wp2_with (at_builtin; refine appendS elLb rfl _ _ rfl ho ((Below.refl _ _).alloc (Nat.le_refl _) _) ?c1 rfl rfl hs2 h1 ?c2 ?c3 ?_)
    case c1 => simp
    case c2 => have := HN.out; omega
    case c3 => have := HN.out; omega
    intro v' w1 hown' hbel' _
    have HO : Hid (Ow LbR 2 67 w.heap.size w1 v' L) := Lib.hid ⟨P, HP.out.1, HP.out.2.1, fun p hp => HP.out.2.2 p hp, by rw [hn]; simpa using hown'⟩
    have HB := Lib.hid hbel'
    clear hown' hbel'
    go_wp2
    go_ret
    exact ⟨v', rfl, HO.out, HB.out⟩
/-- A list of labels that came in. -/
def LvI (w : World) (l : List Lb) (c : List Value) : Prop := ∃ t, c = [t] ∧ Sp LbR 2 w t l
theorem lvI_mono : Mono LvI := fun w w' a c ⟨t, h1, h2⟩ hb => ⟨t, h1, h2.below lbR_mono hb⟩
theorem lvO_I {B : Nat} {w : World} {l : List Lb} {c : List Value} (h : LvO B w l c) : LvI w l c := by
  obtain ⟨t, h1, h2⟩ := h
  exact ⟨t, h1, h2.sp⟩
/-- The first fault. -/
def faultG : List (List Lb) → Int
  | [] => 0
  | l :: r => if labelF l = 0 then faultG r else labelF l
def newF (L : List (List Lb)) : Int := if 200 < L.length then 2 else faultG L
theorem fault_hit : ∀ {L : List (List Lb)} {i : Nat} {l : List Lb}, (∀ x ∈ L.take i, labelF x = 0) → L[i]? = some l → labelF l ≠ 0 → faultG L = labelF l
  | [], i, l, _, h, _ => by simp at h
  | x :: r, 0, l, _, h, hne => by
    obtain rfl : x = l := by simpa using h
    rw [faultG, if_neg hne]
  | x :: r, i + 1, l, h0, h, hne => by
    have hx : labelF x = 0 := h0 x (by simp)
    rw [faultG, if_pos hx]
    exact fault_hit (i := i) (fun y hy => h0 y (by simp [hy])) (by simpa using h) hne
theorem fault_none : ∀ {L : List (List Lb)}, (∀ x ∈ L, labelF x = 0) → faultG L = 0
  | [], _ => rfl
  | x :: r, h => by rw [faultG, if_pos (h x (by simp))]; exact fault_none (fun y hy => h y (by simp [hy]))
theorem fault_all : ∀ {L : List (List Lb)}, faultG L = 0 → ∀ x ∈ L, labelF x = 0
  | [], _, x, hx => by simp at hx
  | y :: r, h, x, hx => by
    rw [faultG] at h
    by_cases hy : labelF y = 0
    · rw [if_pos hy] at h
      rcases List.mem_cons.1 hx with rfl | hx
      · exact hy
      · exact fault_all h x hx
    · rw [if_neg hy] at h
      exact absurd h hy
theorem row_ne_map {w : World} {B size n mb k : Nat} {e : TypeId} {v : Value} {xs : List Value} {es : Array MapEntry} (h : w.ownsRow B e size v n xs) (hm : w.heap[mb]? = some (.map es k)) : v.ownBlock ≠ some mb := by
  rcases h.2 with ⟨rfl, _⟩ | ⟨g, cap, cur, rfl, _, hg, _⟩
  · simp [Value.ownBlock]
  · intro h'
    obtain rfl : g = mb := by simpa [Value.ownBlock] using h'
    rw [hm] at hg
    simp at hg
theorem GrpAt.block {mb : Nat} {E : List (Lb × Int)} {w : World} (h : GrpAt mb E w) : ∃ es k, w.heap[mb]? = some (.map es k) := by
  obtain ⟨D, ⟨es, clock, hb, _⟩, _⟩ := h
  exact ⟨es, clock, hb⟩
/-- One list more. -/
theorem AllAt.put {B mb xb : Nat} {L : List (List Lb)} {ao : Option Addr} {n c g cap : Nat} {w3 w4 : World} {v3 : Value} {l : List Lb} {P : List (List Lb × List Value)} (h : AllAt B mb xb L ao n c w3) (hP : P.map (·.1) = L) (hk : PK 1 P) (hR : ∀ p ∈ P, LvO B w3 p.1 p.2) (hrow : w3.ownsRow B 63 1 (.slice ao n c) n (pc P))
    (ho : Ow LbR 2 67 B w3 v3 l) (hg : w3.grownBy w4 (Value.slice ao n c).ownBlock) (hown : w4.ownsRow B 63 1 (.slice (some ⟨g, 0, none⟩) (n + 1) cap) (n + 1) (pc P ++ [v3])) :
    AllAt B mb xb (L ++ [l]) (some ⟨g, 0, none⟩) (n + 1) cap (w4.setCell ⟨xb, 0, none⟩ (.slice (some ⟨g, 0, none⟩) (n + 1) cap)) := by
  have hne := own_block_ne hrow h.box (by decide)
  have hbox4 : w4.heap[xb]? = some (.cells #[.slice ao n c, .map (some mb)] 93 (0, 0)) := (hg.block xb (Array.getElem?_eq_some_iff.1 h.box).1 (fun e => hne e.symm)).trans h.box
  have hoff := off_row (e' := 67) hrow (by decide)
  have ho4 := ow_turn ho hg hoff
  have hs := grown_set w4 ⟨xb, 0, none⟩ (.slice (some ⟨g, 0, none⟩) (n + 1) cap)
  have hoff2 : ∀ e', 93 ≠ e' → Off w4 (some xb) e' := fun e' he => off_box hbox4 he
  refine ⟨by simpa using row_setCell 0 (.slice (some ⟨g, 0, none⟩) (n + 1) cap) hbox4, ⟨P ++ [(l, [v3])], by rw [List.map_append, hP]; rfl, ?_, ?_, ?_⟩, by rw [List.length_append, h.len]; rfl, h.low⟩
  · intro p hp
    rcases List.mem_append.1 hp with hp | hp
    · exact hk p hp
    · obtain rfl : p = (l, [v3]) := by simpa using hp
      rfl
  · intro p hp
    rcases List.mem_append.1 hp with hp | hp
    · exact ((hR p hp).turn hg hoff).turn hs (hoff2 _ (by decide))
    · obtain rfl : p = (l, [v3]) := by simpa using hp
      exact ⟨v3, rfl, ow_turn ho4 hs (hoff2 _ (by decide))⟩
  · rw [List.length_append, h.len, List.length_singleton]
    have e : pc (P ++ [(l, [v3])]) = pc P ++ [v3] := by rw [pc_append]; simp [pc]
    rw [e]
    exact hown.kept hs (own_off hown (hoff2 _ (by decide)))
/-- What New answers. -/
def NewP (w : World) (L : List (List Lb)) (e : Ending) (w' : World) : Prop := Below w.heap.size w w' ∧ ((newF L ≠ 0 ∧ e = .returned (.tuple #[.pointer none, .int .i64 (newF L)])) ∨
  (newF L = 0 ∧ e = .returned (.tuple #[.pointer (some ⟨w.heap.size + 1, 0, none⟩), .int .i64 0]) ∧ (∃ ao n c, AllAt w.heap.size w.heap.size (w.heap.size + 1) L ao n c w') ∧ GrpAt w.heap.size (prs 0 L) w'))
def NewR (mb : Nat) (w : World) (L : List (List Lb)) (i : Nat) (wr : World) : Prop := (∃ ao n c, AllAt mb mb (mb + 1) (L.take i) ao n c wr) ∧ GrpAt mb (prs 0 (L.take i)) wr ∧ (Below mb w wr ∧ mb ≤ wr.heap.size) ∧ ∀ x ∈ L.take i, labelF x = 0
def NewQ (mb : Nat) (w : World) (L : List (List Lb)) (i : Nat) (E : List (Lb × Int)) (wr : World) : Prop := (∃ ao n c, AllAt mb mb (mb + 1) (L.take i) ao n c wr) ∧ GrpAt mb E wr ∧ (Below mb w wr ∧ mb ≤ wr.heap.size)
theorem prs_part {L : List (List Lb)} {k j : Nat} {l : List Lb} {y : Lb} (hy : l[j]? = some y) : prs 0 (L.take k) ++ (l.take (j + 1)).map (fun y => (y, (k : Int))) = (prs 0 (L.take k) ++ (l.take j).map (fun y => (y, (k : Int)))) ++ [(y, (k : Int))] := by
  rw [List.take_add_one, hy, List.map_append, ← List.append_assoc]
  rfl
set_option maxHeartbeats 8000000 in
set_option maxRecDepth 100000 in
theorem new_any (v : Value) (L : List (List Lb)) (w : World) (hs : Sp LvI 1 w v L) : Calls Try.prog 38 #[v] w (NewP w L) := by
  obtain ⟨ao, c, rfl, hnc, hc⟩ := hs.shape
  obtain ⟨n, hn⟩ : ∃ n, L.length = n := ⟨_, rfl⟩
  rw [hn] at hs hnc ⊢
  have HN := Lib.hid hn
  have HS := Lib.hid hs
  clear hn hs
  by_cases hbig : 200 < n
  · have HF : Hid (newF L = 2) := Lib.hid (if_pos (by rw [HN.out]; exact hbig))
    have t0 : decide ((200 : Int) < (n : Int)) = true := decide_eq_true (by omega)
    go_enter Try.func38, Try.ntmps38
    go_wp2_with fail
    go_ret2
    exact ⟨Below.refl _ _, Or.inl ⟨by rw [HF.out]; decide, by rw [HF.out]; rfl⟩⟩
  have HF : Hid (newF L = faultG L) := Lib.hid (if_neg (by rw [HN.out]; exact hbig))
  have t0 : decide ((200 : Int) < (n : Int)) = false := decide_eq_false (by omega)
  have hmm := @run_makeMap Try.prog
  go_enter Try.func38, Try.ntmps38
  go_upto_region 4 with (fail)
  refine wp_abs (fun wx => NewR w.heap.size w L 0 wx ∧ w.heap.size + 1 < wx.heap.size) ⟨⟨⟨none, 0, 0, ⟨by have := heap_alloc_new (w.alloc (Obj.map #[] 0)) (Obj.cells #[.slice none 0 0, .map (some w.heap.size)] 93); simpa using this, Ow.nil, rfl, Nat.le_succ _⟩⟩,
    GrpAt.below ⟨_, World.ownsGroups_made w _ _ _ _, GrD.empty⟩ ((Below.refl _ _).alloc (Nat.le_refl _) _), ⟨((Below.refl _ _).alloc (Nat.le_refl _) _).alloc (by simp) _, by simp; omega⟩, fun x hx => by simp at hx⟩, by simp⟩ ?_
  obtain ⟨mb, hmb⟩ : ∃ b, w.heap.size = b := ⟨_, rfl⟩
  have HMB := Lib.hid hmb
  rw [hmb]
  clear hmm
  rintro w0 ⟨h0, hl0⟩
  have HR0 := Lib.hid h0
  clear h0 hmb
  go_wp2_with fail
  go_loopw [18] (fun i wr => ∃ k : Nat, k ≤ n ∧ i = .int .i64 k ∧ Hid (NewR mb w L k wr)) (fun i _ => n - (intOf i).toNat)
  case atStart => exact ⟨0, Nat.zero_le _, rfl, HR0⟩
  case round =>
    obtain ⟨k, hk, rfl, HR⟩ := hrel
    by_cases hlt : k < n
    case neg =>
      obtain rfl : k = n := by omega
      have HT : Hid (L.take k = L) := Lib.hid (List.take_of_length_le (by rw [HN.out]; exact Nat.le_refl _))
      have HE : Hid (NewP w L (.returned (.tuple #[.pointer (some ⟨mb + 1, 0, none⟩), .int .i64 0])) wr) := Lib.hid (by
        obtain ⟨h1, h2, h3, h4⟩ := HR.out
        rw [HT.out] at h1 h2 h4
        unfold NewP
        rw [HMB.out]
        exact ⟨h3.1, Or.inr ⟨by rw [HF.out]; exact fault_none h4, rfl, h1, h2⟩⟩)
      go_wp2_with fail
      go_ret2
      exact HE.out
    obtain ⟨l, hl⟩ : ∃ l, L[k]? = some l := ⟨_, List.getElem?_eq_getElem (by rw [HN.out]; exact hlt)⟩
    obtain ⟨⟨xo, xn, xc, hAll⟩, hGrp, hBel, hOk⟩ := HR.out
    have HGR := Lib.hid hGrp
    have HBE := Lib.hid hBel
    have HOK := Lib.hid hOk
    have HAL := Lib.hid hAll
    obtain ⟨b, off, cs, rfl, ⟨lt, rfl, hlv0⟩, -, hcell⟩ := HS.out.get hl
    have c0w := hcell 0 lt rfl
    rw [Nat.mul_one, Nat.add_zero] at c0w
    have hbw : Below w.heap.size w wr := by rw [HMB.out]; exact hBel.1
    have c0 := (hbw.cell (p := ⟨b, off + k, none⟩) (cell_lt c0w)).trans c0w
    have hlv := hlv0.below lbR_mono hbw
    have HLV0 := Lib.hid hlv0
    obtain ⟨lo, lc, rfl, hlc, hlc2⟩ := hlv.shape
    obtain ⟨m, hm⟩ : ∃ m, l.length = m := ⟨_, rfl⟩
    rw [hm] at hlv hlc c0 HLV0
    have HM := Lib.hid hm
    have HLV := Lib.hid hlv
    obtain ⟨F, hF⟩ : ∃ F, labelF l = F := ⟨_, rfl⟩
    have hck := fun W (hW : Below wr.heap.size wr W) => lbcheck_any _ l W (hlv.below lbR_mono hW)
    rw [hF] at hck
    have HCK := Lib.hid hck
    have HFL := Lib.hid hF
    have HL := Lib.hid hl
    clear hAll hGrp hBel hOk hcell hlv hlv0 hbw c0w hm hF hck HR hl
    have hk0 : (0 : Int) ≤ (k : Int) := by omega
    have hk1 : (k : Int) < (n : Int) := by omega
    go_wp2_with fail
    refine (HCK.out _ (Below.refl _ _)).mono ?_
    rintro e w1 ⟨rfl, hb1⟩
    have HB1 := Lib.hid hb1
    clear c0 hb1
    by_cases hz : F = 0
    case neg =>
      have t1 : (F != 0) = true := by rw [bne_iff_ne]; exact hz
      have HE : Hid (NewP w L (.returned (.tuple #[.pointer none, .int .i64 F])) w1) := Lib.hid (by
        have h1 : newF L = F := by rw [HF.out, fault_hit HOK.out HL.out (by rw [HFL.out]; exact hz), HFL.out]
        exact ⟨by rw [HMB.out]; exact HBE.out.1.trans (HB1.out.mono HBE.out.2), Or.inl ⟨by rw [h1]; exact hz, by rw [h1]⟩⟩)
      clear hz
      go_wp2_with fail
      go_ret2
      exact HE.out
    subst hz
    have HM10 : Hid (m ≤ 10) := Lib.hid (by rw [← HM.out]; exact label_len HFL.out)
    have hxn : xn = k := by rw [← HAL.out.len, List.length_take, HN.out, Nat.min_eq_left hk]
    subst hxn
    have HAL1 := Lib.hid (HAL.out.below HB1.out)
    have HGR1 := Lib.hid (HGR.out.below HB1.out)
    have HBE1 := Lib.hid (And.intro (HBE.out.1.trans (HB1.out.mono HBE.out.2)) (Nat.le_trans HBE.out.2 HB1.out.size))
    have HLV1 := Lib.hid (HLV.out.below lbR_mono HB1.out)
    clear HAL HGR HB1
    obtain ⟨⟨d0, d1⟩, ⟨f0, f1⟩⟩ := HAL1.out.cells
    have HD0 := Lib.hid (Below.refl w1.heap.size w1).drew
    go_upto_region 10 with (fail)
    obtain ⟨P, hP, hPk, hPR, hrow⟩ := HAL1.out.all
    rw [HAL1.out.len] at hrow
    have HPP := Lib.hid (And.intro hP hPk)
    have hpc0 : (pc P).length = xn := by rw [hrow.1, Nat.mul_one]
    have HLVd := Lib.hid (HLV1.out.below lbR_mono HD0.out)
    have HROW := Lib.hid hrow
    have HPRS := Lib.hid hPR
    have h47 : (xn + 1) * 24 ≤ 140737488355328 := by omega
    have h63 : xn + 1 ≤ 9223372036854775807 := by omega
    have HB10 := Lib.hid HM10.out
    clear hP hPk hPR hrow hpc0
    have hlt1 : (l.length) = m := HM.out
    clear hlt1
    go_cut [] (fun wx => NewQ mb w L (xn + 1) (prs 0 (L.take xn)) wx)
    case first =>
     go_region_law (first
      | (refine step_app1 [_] elLs rfl _ _ rfl hrow3 hbel3 (Nat.le_refl _) hsz3 rfl rfl rfl hone3 h47 h63 ?_; intro g cap w4 hown4 hbel4 hgr4; have hbx4 := hx4 w4 hgr4; have c4 := (row_cell 0 _ hbx4 rfl).1; have e4 := (row_cell 0 _ hbx4 rfl).2)
      | (go_simp; go_at_call 61; refine (clone_lb _ l _ HLVd.out (by rw [HM.out]; have := HB10.out; omega)).mono ?_; rintro e w3 ⟨v3, rfl, ho3, hb3⟩; obtain ⟨o3, k3, rfl, -, -⟩ := ho3.shape; have hb13 : Below w1.heap.size w1 w3 := HD0.out.trans (hb3.mono HD0.out.size); have hrow3 := own_below HROW.out hb13; have hbel3 : Below mb w w3 := HBE1.out.1.trans (hb13.mono HBE1.out.2); have hsz3 : mb ≤ w3.heap.size := Nat.le_trans HBE1.out.2 hb13.size; have hone3 : ∀ u ∈ [Value.slice o3 l.length k3], u.oneCell' = true := (by intro u hu; obtain rfl := List.mem_singleton.1 hu; rfl); have hA3 := HAL1.out.below hb13; obtain ⟨⟨d3, -⟩, -⟩ := hA3.cells; have d3a := fun o => (hA3.below ((Below.refl _ w3).alloc (Nat.le_refl _) o)).cells.1.1; have hx4 := fun w4 (hg : w3.grownBy w4 (Value.slice xo xn xc).ownBlock) => (hg.block (mb + 1) (Array.getElem?_eq_some_iff.1 hA3.box).1 (fun e => own_block_ne hrow3 hA3.box (by decide) e.symm)).trans hA3.box))
     all_goals
       have HPUT := Lib.hid (hA3.put HPP.out.1 HPP.out.2 (fun p hp => by
         obtain ⟨t, h1, h2⟩ := HPRS.out p hp
         exact ⟨t, h1, h2.below lbR_mono hb13⟩) hrow3 (ho3.mono (Nat.le_trans HBE1.out.2 HD0.out.size)) hgr4 hown4)
       have HGP := Lib.hid (((HGR1.out.below hb13).turn hgr4 (by
         obtain ⟨es, kk, hm2⟩ := (HGR1.out.below hb13).block
         exact row_ne_map hrow3 hm2) (off_row hrow3 (by decide))).turn (grown_set w4 ⟨mb + 1, 0, none⟩ (.slice (some ⟨g, 0, none⟩) (xn + 1) cap)) (by simp) (off_box hbx4 (by decide)))
       have HBP := Lib.hid (hbel4.setCell (p := ⟨mb + 1, 0, none⟩) (Nat.le_succ _) (.slice (some ⟨g, 0, none⟩) (xn + 1) cap))
       have HTK : Hid (L.take (xn + 1) = L.take xn ++ [l]) := Lib.hid (by rw [List.take_add_one, HL.out]; rfl)
       have HSZ : Hid (mb ≤ w4.heap.size) := Lib.hid (Nat.le_trans hsz3 hgr4.size)
       clear hgr4 hown4 hbel4 hbx4 c4 e4
       go_wp2_with fail
       go_meet
       exact ⟨⟨_, _, _, by rw [HTK.out]; exact HPUT.out⟩, HGP.out, HBP.out, by simpa using HSZ.out⟩
    clear HAL1 HGR1 HBE1 HLV1 HLVd HPP HROW HPRS d0 d1 f0 f1 HD0
    obtain ⟨w2, rfl⟩ : ∃ x, x = wc := ⟨_, rfl⟩
    have HQ2 : Hid (NewQ mb w L (xn + 1) (prs 0 (L.take xn) ++ (l.take 0).map (fun y => (y, (xn : Int)))) w2) := Lib.hid (by
      have e : (l.take 0).map (fun y => (y, (xn : Int))) = [] := rfl
      rw [e, List.append_nil]
      exact hcut)
    clear hcut
    have HLVW : Hid (∀ W, Below mb w W → Sp LbR 2 W (.slice lo m lc) l) := Lib.hid (fun W hW => HLV0.out.below lbR_mono (by rw [HMB.out]; exact hW))
    go_wp2_with fail
    go_loopw [41] (fun i wr => ∃ j : Nat, j ≤ m ∧ i = .int .i64 j ∧ Hid (NewQ mb w L (xn + 1) (prs 0 (L.take xn) ++ (l.take j).map (fun y => (y, (xn : Int)))) wr)) (fun i _ => m - (intOf i).toNat)
    case atStart => exact ⟨0, Nat.zero_le _, rfl, HQ2⟩
    case round =>
      obtain ⟨j, hj, rfl, HQ⟩ := hrel
      by_cases hlt2 : j < m
      case neg =>
        obtain rfl : j = m := by omega
        have HNR : Hid (NewR mb w L (xn + 1) wr) := Lib.hid (by
          obtain ⟨h1, h2, h3⟩ := HQ.out
          rw [show l.take j = l from List.take_of_length_le (by rw [HM.out]; exact Nat.le_refl _)] at h2
          refine ⟨h1, by rw [prs_take HL.out]; exact h2, h3, fun x hx => ?_⟩
          rw [List.take_add_one, HL.out] at hx
          rcases List.mem_append.1 hx with hx | hx
          · exact HOK.out x hx
          · obtain rfl : x = l := by simpa using hx
            exact HFL.out)
        go_wp2_with fail
        go_roundw
        case rel => exact ⟨xn + 1, by omega, by go_num, HNR⟩
        case measure => simp [intOf]; omega
      obtain ⟨y, hy⟩ : ∃ y, l[j]? = some y := ⟨_, List.getElem?_eq_getElem (by rw [HM.out]; exact hlt2)⟩
      obtain ⟨⟨qo, qn, qc, hAq⟩, hGq, hBq, hSq⟩ := HQ.out
      obtain ⟨lb, loff, lcs, hlo, ⟨rfl, hy1, hy2⟩, -, hlcell⟩ := (HLVW.out _ hBq).get hy
      subst hlo
      have e0 := hlcell 0 _ rfl
      have e1 := hlcell 1 _ rfl
      rw [Nat.add_zero] at e0
      obtain ⟨Sn, hSn⟩ : ∃ A, A = mkS y.nm := ⟨_, rfl⟩
      obtain ⟨Sv, hSv⟩ : ∃ A, A = mkS y.vl := ⟨_, rfl⟩
      have HLB : Hid (lbV y = .agg #[.string Sn, .string Sv]) := Lib.hid (by rw [hSn, hSv]; rfl)
      rw [← hSn] at e0
      rw [← hSv] at e1
      have HFIT : Hid (Fits2 y) := Lib.hid ⟨by omega, by omega⟩
      have HAQ := Lib.hid hAq
      have HGQ := Lib.hid hGq
      have HBQ := Lib.hid (And.intro hBq hSq)
      have HY := Lib.hid hy
      have hj0 : (0 : Int) ≤ (j : Int) := by omega
      have hj1 : (j : Int) < (m : Int) := by omega
      clear hAq hGq hBq hSq hlcell hy1 hy2 hSn hSv hy HQ
      obtain ⟨E, hE⟩ : ∃ E, prs 0 (L.take xn) ++ (l.take j).map (fun y => (y, (xn : Int))) = E := ⟨_, rfl⟩
      have HE2 : Hid (prs 0 (L.take xn) ++ (l.take (j + 1)).map (fun y => (y, (xn : Int))) = E ++ [(y, (xn : Int))]) := Lib.hid (by rw [prs_part HY.out, hE])
      have HEL : Hid (E.length < 1000000) := Lib.hid (by
        rw [← hE, List.length_append, List.length_map, List.length_take]
        have h1 := prs_len (L.take xn) 0 (fun x hx => label_len (HOK.out x hx))
        rw [List.length_take] at h1
        have := HB10.out
        omega)
      rw [hE] at HGQ
      clear hE
      go_upto_region 14 with (fail)
      refine wp_abs (fun wx => wx.heap[wr.heap.size]? = some (.cells #[.string Sn, .string Sv] 67 (0, 0)) ∧ AllAt mb mb (mb + 1) (L.take (xn + 1)) qo qn qc wx ∧ GrpAt mb E wx ∧ (Below mb w wx ∧ mb ≤ wx.heap.size)) ⟨heap_alloc_new wr _, HAQ.out.below ((Below.refl _ _).alloc (Nat.le_refl _) _), HGQ.out.below ((Below.refl _ _).alloc (Nat.le_refl _) _), HBQ.out.1.alloc HBQ.out.2 _, by simp; have := HBQ.out.2; omega⟩ ?_
      obtain ⟨bl, hbl⟩ : ∃ b, wr.heap.size = b := ⟨_, rfl⟩
      rw [hbl]
      rintro wl ⟨hbox, hAl, hGl, hBl, hSl⟩
      clear HAQ HGQ HBQ e0 e1 hbl
      have hdr : Below wl.heap.size wl wl.drew := (Below.refl _ _).drew
      obtain ⟨v, st, o1, hent, hoff, hoff1, hmbl, hrow, hpl, hback⟩ := (hGl.below hdr).open (y := y) (i := (xn : Int)) (by have := HEL.out; omega) HFIT.out (WalkArith.wf_i64 (by omega))
      rw [HLB.out] at hent
      obtain ⟨vn, hvn⟩ : ∃ n, (plc E y).length = n := ⟨_, rfl⟩
      rw [hvn] at hrow hpl hback
      obtain ⟨vo, vc, rfl, -, -, -⟩ := own_shape hrow
      obtain ⟨w3, hw3⟩ : ∃ x, x = ChangeMaps.setBlock wl.drew mb o1 := ⟨_, rfl⟩
      obtain ⟨w4, hw4⟩ : ∃ x, x = ChangeMaps.setBlock (wl.drew.alloc (.cells #[.int .i64 (xn : Int)] 3)) mb o1 := ⟨_, rfl⟩
      have hm1 := hent _ rfl
      have hm2 := hent (wl.alloc (.cells #[.int .i64 (xn : Int)] 3)).drew (Below.heap_alloc wl _ _ hmbl)
      rw [← hw3] at hm1
      have hw4' : w4 = ChangeMaps.setBlock (wl.alloc (.cells #[.int .i64 (xn : Int)] 3)).drew mb o1 := hw4
      rw [← hw4'] at hm2
      clear hw4'
      have hg13 : wl.drew.grownBy w3 (some mb) := by rw [hw3]; exact grown_block _ _ _
      have hg34 : ∀ row, w3.grownBy w4 row := fun row => by rw [hw3, hw4]; exact grown_swap hmbl row
      have hrow3 := hrow.kept hg13 (own_off hrow (hoff _))
      have hrow4 := hrow3.kept (hg34 none) (own_off hrow3 (off_none _ _))
      have hxb := hAl.box
      have hxl : mb + 1 < wl.heap.size := (Array.getElem?_eq_some_iff.1 hxb).1
      have hbll : bl < wl.heap.size := (Array.getElem?_eq_some_iff.1 hbox).1
      have hblm : bl ≠ mb := fun e => by
        subst e
        obtain ⟨es, kk, hmm⟩ := hGl.block
        rw [hmm] at hbox
        simp at hbox
      have hS : ∀ W : World, W.heap[mb + 1]? = wl.heap[mb + 1]? → W.heap[bl]? = wl.heap[bl]? → W.cell? ⟨mb + 1, 1, none⟩ = some (.map (some mb)) ∧ W.cell? ⟨bl, 0, none⟩ = some (.string Sn) ∧ W.cell? ⟨bl, 1, none⟩ = some (.string Sv) := fun W h1 h2 =>
        ⟨(bx2 (h1.trans hxb)).1.2, (bx2 (h2.trans hbox)).1.1, (bx2 (h2.trans hbox)).1.2⟩
      have hb3 : ∀ i, i ≠ mb → i < wl.heap.size → w3.heap[i]? = wl.heap[i]? := fun i h1 h2 => hg13.block i h2 (fun e => h1 (by injection e))
      have hb4 : ∀ i, i ≠ mb → i < wl.heap.size → w4.heap[i]? = wl.heap[i]? := fun i h1 h2 => ((hg34 none).block i (Nat.lt_of_lt_of_le h2 hg13.size) (by simp)).trans (hb3 i h1 h2)
      have hvm : (Value.slice vo vn vc).ownBlock ≠ some (mb + 1) := own_block_ne hrow hxb (by decide)
      have hvb : (Value.slice vo vn vc).ownBlock ≠ some bl := own_block_ne hrow hbox (by decide)
      have z0 := hS wl.drew rfl rfl
      have z3 := hS w3 (hb3 _ (by omega) hxl) (hb3 _ hblm hbll)
      have z4 := hS w4 (hb4 _ (by omega) hxl) (hb4 _ hblm hbll)
      have z3a := fun o => hS (w3.alloc o) ((Below.heap_alloc _ _ _ (Nat.lt_of_lt_of_le hxl hg13.size)).trans (hb3 _ (by omega) hxl)) ((Below.heap_alloc _ _ _ (Nat.lt_of_lt_of_le hbll hg13.size)).trans (hb3 _ hblm hbll))
      have z0a := fun o => hS (wl.alloc o).drew (Below.heap_alloc wl o _ hxl) (Below.heap_alloc wl o _ hbll)
      have hsz3 : w3.heap.size = wl.heap.size := by rw [hw3, setBlock_size]; rfl
      have hsz4 : w4.heap.size = wl.heap.size + 1 := by rw [hw4, setBlock_size]; simp
      have hnew4 : ∀ j u, [Value.int .i64 (xn : Int)][j]? = some u → w4.cell? ((⟨wl.heap.size, 0, none⟩ : Addr).add j) = some u := fun j u hu => by
        have h0 := cell_one_new wl.drew (.int .i64 (xn : Int)) 3 j u hu
        rw [hw4]
        have e1 : ∀ a : Addr, a.block = wl.heap.size → (ChangeMaps.setBlock (wl.drew.alloc (.cells #[.int .i64 (xn : Int)] 3)) mb o1).cell? a = (wl.drew.alloc (.cells #[.int .i64 (xn : Int)] 3)).cell? a := fun a ha => World.cell?_of_block (setBlock_else (by rw [ha]; have : mb < wl.heap.size := hmbl; omega))
        rw [e1 _ (by unfold Addr.add; split <;> rfl)]
        exact h0
      have hback2 := fun w5 v' (hg : w3.grownBy w5 (Value.slice vo vn vc).ownBlock) => hback w5 v' (by rw [← hw3]; exact hg)
      have HBK := Lib.hid hback2
      have HR3 := Lib.hid hrow3
      have HR4 := Lib.hid hrow4
      have hE9 := HEL.out
      have h47b : (vn + 1) * 8 ≤ 140737488355328 := by omega
      have h63b : vn + 1 ≤ 9223372036854775807 := by omega
      have hb3s : mb + 1 ≤ (w3.alloc (.cells #[.int .i64 (xn : Int)] 3)).heap.size := by simp; omega
      have hb4s : mb + 1 ≤ w4.heap.size := by omega
      have HW3 := Lib.hid hw3
      have HW4 := Lib.hid hw4
      have HG34 := Lib.hid hg34
      have HN4 := Lib.hid hnew4
      have HAl := Lib.hid hAl
      have HBl := Lib.hid (And.intro hBl hSl)
      have HOF := Lib.hid (And.intro hoff hoff1)
      have HG13 := Lib.hid hg13
      have HSS := Lib.hid hS
      have HB3 := Lib.hid hb3
      have HXL := Lib.hid (And.intro hxl (And.intro hbll hblm))
      have HVB := Lib.hid (And.intro hvm hvb)
      have HS34 := Lib.hid (And.intro hsz3 hsz4)
      clear hback hback2 hrow hrow3 hrow4 hent hoff hoff1 hw3 hw4 hg34 hnew4 hAl hBl hSl hg13 hS hb3 hb4 hvm hvb hsz3 hsz4 hvn hdr hGl hbox hxb hpl hE9
      have HARM : Hid (∀ (w5 : World) (v5 : Value), w3.grownBy w5 (Value.slice vo vn vc).ownBlock → w5.ownsRow (mb + 1) 3 1 v5 (vn + 1) ((plc E y).map (Value.int .i64) ++ [.int .i64 (xn : Int)]) → (v5.ownBlock = (Value.slice vo vn vc).ownBlock ∨ ∃ g, v5.ownBlock = some g ∧ wl.heap.size ≤ g) →
          ∃ w6, (Instr.entryStore 91 (.map (some mb)) (.int .i64 (st : Int)) v5).run Try.prog w5 = .ok () w6 ∧ (w5.cell? ⟨mb + 1, 1, none⟩ = some (.map (some mb)) ∧ w5.cell? ⟨bl, 0, none⟩ = some (.string Sn) ∧ w5.cell? ⟨bl, 1, none⟩ = some (.string Sv)) ∧
            (w6.cell? ⟨mb + 1, 1, none⟩ = some (.map (some mb)) ∧ w6.cell? ⟨bl, 0, none⟩ = some (.string Sn) ∧ w6.cell? ⟨bl, 1, none⟩ = some (.string Sv)) ∧ NewQ mb w L (xn + 1) (E ++ [(y, (xn : Int))]) w6) := Lib.hid (fun w5 v5 hg5 hown5 hloc => by
        obtain ⟨w6, hr6, hG6, hg6⟩ := HBK.out w5 v5 hg5 hown5 hloc
        obtain ⟨hxl, hbll, hblm⟩ := HXL.out
        have hsz5 : wl.heap.size ≤ w5.heap.size := by have := hg5.size; have := HS34.out.1; omega
        have k5 : ∀ i, i ≠ mb → i < wl.heap.size → (Value.slice vo vn vc).ownBlock ≠ some i → w5.heap[i]? = wl.heap[i]? := fun i h1 h2 h3 => (hg5.block i (by have := HS34.out.1; omega) (fun e => h3 e.symm)).trans (HB3.out i h1 h2)
        have k6 : ∀ i, i ≠ mb → i < wl.heap.size → (Value.slice vo vn vc).ownBlock ≠ some i → w6.heap[i]? = wl.heap[i]? := fun i h1 h2 h3 => (hg6.block i (by omega) (fun e => h1 (by injection e))).trans (k5 i h1 h2 h3)
        have hm5 : w5.heap[mb]? = some o1 := by
          have h1 := hg5.block mb (by have := HS34.out.1; omega) (fun e => by
            have := (HR3.out.lt mb e.symm).1
            omega)
          rw [h1, HW3.out]
          obtain ⟨o0, ho0⟩ : ∃ x, wl.drew.heap[mb]? = some x := ⟨_, Array.getElem?_eq_getElem (show mb < wl.heap.size by omega)⟩
          exact setBlock_heap ho0
        have hA1 := HAl.out.below (Below.refl wl.heap.size wl).drew
        have hA3 := hA1.turn HG13.out (by simp) (HOF.out.1 _) (HOF.out.1 _)
        have hA5 := hA3.turn hg5 HVB.out.1 (off_row HR3.out (by decide)) (off_row HR3.out (by decide))
        have hA6 := hA5.turn hg6 (by simp) (HOF.out.2 _ hm5 _) (HOF.out.2 _ hm5 _)
        refine ⟨w6, hr6, HSS.out w5 (k5 _ (by omega) hxl HVB.out.1) (k5 _ hblm hbll HVB.out.2), HSS.out w6 (k6 _ (by omega) hxl HVB.out.1) (k6 _ hblm hbll HVB.out.2), ⟨_, _, _, hA6⟩, hG6, ?_, by have := hg6.size; have := HBl.out.2; omega⟩
        have b1 := HBl.out.1.drew
        have b3 := b1.grown HG13.out HBl.out.2 (fun k hk => by injection hk with hk; omega)
        have b5 := b3.grown hg5 (by have := HS34.out.1; have := HBl.out.2; omega) (fun k hk => by have := (HR3.out.lt k hk).1; omega)
        exact b5.grown hg6 (by have := HBl.out.2; omega) (fun k hk => by injection hk with hk; omega))
      go_region_held3 (fun w' => w'.cell? ⟨mb + 1, 1, none⟩ = some (.map (some mb)) ∧ w'.cell? ⟨bl, 0, none⟩ = some (.string Sn) ∧ w'.cell? ⟨bl, 1, none⟩ = some (.string Sv)) (first | (with_reducible exact z6) | (with_reducible exact z5) | (with_reducible exact z0) | (with_reducible exact z3) | (with_reducible exact z4) | (with_reducible exact z3a _) | (with_reducible exact z0a _)) (first
        | (refine step_app_at SortI.elInt rfl _ _ rfl (HR3.out.alloc _) rfl rfl rfl (cell_one_new w3 _ _) (by intro u hu; obtain rfl := List.mem_singleton.1 hu; rfl) h47b h63b hb3s ?_; intro v5 w5 hown5 hgr5 hat5; obtain ⟨o5, c5, rfl, -, -, -⟩ := own_shape hown5; obtain ⟨w6, hr6, z5, z6, hq6⟩ := HARM.out w5 _ ((World.grownBy_alloc w3 (Obj.cells #[.int .i64 (xn : Int)] 3) _).trans hgr5) hown5 (hat5.imp id (fun h => ⟨_, h, by have := HS34.out.1; simp; omega⟩)); have HQ6 := Lib.hid hq6; clear hq6 hown5 hgr5 hat5)
        | (refine step_app_at SortI.elInt rfl _ _ rfl HR4.out rfl rfl rfl HN4.out (by intro u hu; obtain rfl := List.mem_singleton.1 hu; rfl) h47b h63b hb4s ?_; intro v5 w5 hown5 hgr5 hat5; obtain ⟨o5, c5, rfl, -, -, -⟩ := own_shape hown5; obtain ⟨w6, hr6, z5, z6, hq6⟩ := HARM.out w5 _ ((HG34.out _).trans hgr5) hown5 (hat5.imp id (fun h => ⟨_, h, by have := HS34.out.2; omega⟩)); have HQ6 := Lib.hid hq6; clear hq6 hown5 hgr5 hat5))
      all_goals
        have HQ7 : Hid (NewQ mb w L (xn + 1) (prs 0 (L.take xn) ++ (l.take (j + 1)).map (fun y => (y, (xn : Int)))) w6) := Lib.hid (by rw [HE2.out]; exact HQ6.out)
        clear z0 z3 z4 z3a z0a z5 z6 hr6 hm1 hm2
        go_wp2_with fail
        go_roundw
        case rel => exact ⟨j + 1, by omega, by go_num, HQ7⟩
        case measure => simp [intOf]; omega
end Go.Proofs.Ytlfhcjhbnakamaa.Iy
/-
  Contracts of the library at this program, laid by the kit's own tool (in plain words).
-/
namespace Go.Proofs
open Go.Shelf
def Ytlfhcjhbnakamaa.lays144_ren : Go.Shelf.Ren := ⟨fun | 144 => 104 | 143 => 117 | 219 => 129 | 217 => 134 | 225 => 135 | 224 => 136 | 267 => 137 | 266 => 139 | 314 => 140 | n => n, fun | 9 => 9 | 4 => 4 | 3 => 3 | 5 => 5 | 46 => 76 | 146 => 159 | 51 => 117 | n => n, fun | 1 => 2 | n => n⟩
theorem Ytlfhcjhbnakamaa.lays144 : Go.Proofs.Lays.n144 Try.prog Ytlfhcjhbnakamaa.lays144_ren := {
  mixed := by kernel_rfl
  f143 := Try.func117.trans (congrArg some (by kernel_rfl))
  f144 := Try.func104.trans (congrArg some (by kernel_rfl))
  f217 := Try.func134.trans (congrArg some (by kernel_rfl))
  f219 := Try.func129.trans (congrArg some (by kernel_rfl))
  f224 := Try.func136.trans (congrArg some (by kernel_rfl))
  f225 := Try.func135.trans (congrArg some (by kernel_rfl))
  f266 := Try.func139.trans (congrArg some (by kernel_rfl))
  f267 := Try.func137.trans (congrArg some (by kernel_rfl))
  f314 := Try.func140.trans (congrArg some (by kernel_rfl))
  t3 := Try.underlying3
  a3 := Try.isAgg3
  z3 := Try.sizeOf3
  v3 := Try.zeroValue3
  t4 := Try.underlying4
  a4 := Try.isAgg4
  z4 := Try.sizeOf4
  v4 := Try.zeroValue4
  t5 := Try.underlying5
  a5 := Try.isAgg5
  z5 := Try.sizeOf5
  v5 := Try.zeroValue5
  t9 := Try.underlying9
  a9 := Try.isAgg9
  z9 := Try.sizeOf9
  v9 := Try.zeroValue9
  t46 := Try.underlying76
  a46 := Try.isAgg76
  z46 := Try.sizeOf76
  v46 := Try.zeroValue76
  t51 := Try.underlying117
  a51 := Try.isAgg117
  z51 := Try.sizeOf117
  v51 := Try.zeroValue117
  t146 := Try.underlying159
  a146 := Try.isAgg159
  z146 := Try.sizeOf159
  v146 := Try.zeroValue159
  g1 := by kernel_rfl }
open Go.RowKit Go.Lib in
theorem Ytlfhcjhbnakamaa.strings_Contains (s sub : ByteArray) (m : Int) (w : World) (hs : s.size < 4294967281) (hm : w.cell? ⟨2, 0, none⟩ = some (.int .i64 m)) :
    Calls Try.prog 104 #[.string s, .string sub] w fun e w' => e = .returned (.bool (Lib.contains s.data.toList sub.data.toList)) ∧ w' = w := Any.strings_Contains Ytlfhcjhbnakamaa.lays144 s sub m w hs hm
end Go.Proofs
/-
  Contracts of the library at this program, laid by the kit's own tool (in plain words).
-/
namespace Go.Proofs
open Go.Shelf
def Ytlfhcjhbnakamaa.hlays99_ren : Go.Shelf.Ren := ⟨fun | 99 => 103 | 206 => 116 | n => n, fun | 9 => 9 | 4 => 4 | 3 => 3 | n => n, fun | n => n⟩
theorem Ytlfhcjhbnakamaa.hlays99 : Go.Proofs.Lays.n99 Try.prog Ytlfhcjhbnakamaa.hlays99_ren := {
  mixed := by kernel_rfl
  f99 := Try.func103.trans (congrArg some (by kernel_rfl))
  f206 := Try.func116.trans (congrArg some (by kernel_rfl))
  t3 := Try.underlying3
  a3 := Try.isAgg3
  z3 := Try.sizeOf3
  v3 := Try.zeroValue3
  t4 := Try.underlying4
  a4 := Try.isAgg4
  z4 := Try.sizeOf4
  v4 := Try.zeroValue4
  t9 := Try.underlying9
  a9 := Try.isAgg9
  z9 := Try.sizeOf9
  v9 := Try.zeroValue9 }
open Go.RowKit Go.Lib in
theorem Ytlfhcjhbnakamaa.hstrings_HasPrefix (s p : ByteArray) (w : World) :
    Calls Try.prog 103 #[.string s, .string p] w fun e w' => e = .returned (.bool (Lib.hasPrefix s.data.toList p.data.toList)) ∧ w' = w := Any.strings_HasPrefix Ytlfhcjhbnakamaa.hlays99 s p w
end Go.Proofs
/-
  Labels that fit matches: the walks of Fit and Fits.
-/
namespace Go.Proofs.Ytlfhcjhbnakamaa.Lab
open Go.RowKit Go.Gh
set_option linter.unusedVariables false
set_option linter.unusedSimpArgs false
theorem mkS_dataF (l : By) : (mkS l).data.toList = l := rfl
/-- The library's variable: some number. -/
def MTab (w : World) : Prop := ∃ q : Int, w.cell? ⟨2, 0, none⟩ = some (.int .i64 q)
theorem MTab.below {w w' : World} (h : MTab w) (hb : Below w.heap.size w w') : MTab w' := by
  obtain ⟨q, hq⟩ := h
  exact ⟨q, (hb.cell (p := ⟨_, 0, none⟩) (cell_lt hq)).trans hq⟩
theorem contains_any (a b : By) (w : World) (hM : MTab w) (ha : a.length ≤ 1048576) : Calls Try.prog 104 #[.string (mkS a), .string (mkS b)] w fun e w' => e = .returned (.bool (Lib.contains a b)) ∧ w' = w := by
  obtain ⟨q, hq⟩ := hM
  have h := Ytlfhcjhbnakamaa.strings_Contains (mkS a) (mkS b) q w (by rw [mkS_size]; omega) hq
  rwa [mkS_dataF, mkS_dataF] at h
theorem prefix_any (a b : By) (w : World) : Calls Try.prog 103 #[.string (mkS a), .string (mkS b)] w fun e w' => e = .returned (.bool (b.isPrefixOf a)) ∧ w' = w := by
  have h := Ytlfhcjhbnakamaa.hstrings_HasPrefix (mkS a) (mkS b) w
  rw [mkS_dataF, mkS_dataF] at h
  exact h
theorem str_eq (a b : By) : ((mkS a).toList == (mkS b).toList) = decide (a = b) := by
  rw [mkS_list, mkS_list, Bool.eq_iff_iff]
  simp
set_option maxHeartbeats 4000000 in
set_option maxRecDepth 100000 in
theorem fit_any (v : Value) (L : List Lb) (m : Mt) (w : World) (hs : Sp LbR 2 w v L) (hM : MTab w) (hv : (valF L m.nm).length ≤ 1048576) : Calls Try.prog 69 #[v, .agg #[.int .i64 m.kd, .string (mkS m.nm), .string (mkS m.vl)]] w fun e w' => e = .returned (.bool (fitB L m)) ∧ Below w.heap.size w w' := by
  obtain ⟨ao, c, rfl, -, -⟩ := hs.shape
  obtain ⟨n, hn⟩ : ∃ n, L.length = n := ⟨_, rfl⟩
  rw [hn] at hs ⊢
  have HS := Lib.hid hs
  have HVA := Lib.hid (fun W (hb : Below w.heap.size w W) => value_any _ L m.nm W (hs.below lbR_mono hb))
  have HCO := Lib.hid (fun W (hb : Below w.heap.size w W) => contains_any (valF L m.nm) m.vl W (hM.below hb) hv)
  have HPR := Lib.hid (fun W => prefix_any (valF L m.nm) m.vl W)
  have HEQ := Lib.hid (str_eq (valF L m.nm) m.vl)
  obtain ⟨F, hF⟩ : ∃ F, fitB L m = F := ⟨_, rfl⟩
  rw [hF]
  unfold fitB at hF
  have HF := Lib.hid hF
  obtain ⟨K, hK⟩ : ∃ z, m.kd = z := ⟨_, rfl⟩
  obtain ⟨Sn, hSn⟩ : ∃ z, mkS m.nm = z := ⟨_, rfl⟩
  obtain ⟨Mv, hMv⟩ : ∃ z, mkS m.vl = z := ⟨_, rfl⟩
  obtain ⟨V, hV⟩ : ∃ z, mkS (valF L m.nm) = z := ⟨_, rfl⟩
  rw [hSn, hV] at HVA
  rw [hV, hMv] at HCO HPR HEQ
  rw [hK] at HF
  rw [hK, hSn, hMv]
  clear hn hs hM hv hF hK hSn hMv hV
  obtain ⟨wa, hwa⟩ : ∃ wa, wa = w.alloc (Obj.cells #[.int .i64 K, .string Sn, .string Mv] 102) := ⟨_, rfl⟩
  have hbox : wa.heap[w.heap.size]? = some (.cells #[.int .i64 K, .string Sn, .string Mv] 102 (0, 0)) := by rw [hwa]; exact heap_alloc_new w _
  have hba : Below w.heap.size w wa := by rw [hwa]; exact (Below.refl _ _).alloc (Nat.le_refl _) _
  have hsa : w.heap.size < wa.heap.size := by rw [hwa]; simp
  have HBA := Lib.hid hba
  have HWA := Lib.hid hwa
  clear hba hwa
  go_enter Try.func69, Try.ntmps69
  go_upto_region 1 with (fail)
  rw [← HWA.out]
  obtain ⟨⟨d0, d1, d2⟩, -⟩ := bx3 hbox
  have HC1 := Lib.hid (HVA.out wa HBA.out)
  obtain ⟨bx, hbx⟩ : ∃ bx, w.heap.size = bx := ⟨_, rfl⟩
  rw [hbx] at hbox hsa d0 d1 d2 ⊢
  have HBX := Lib.hid hbx
  clear hbx
  go_upto_region 2 with (go_at_call 102; refine HC1.out.mono ?_; rintro e w1 ⟨rfl, hb1⟩; have hbox1 := (hb1.block bx hsa).trans hbox; have HB1 := Lib.hid (HBA.out.trans (hb1.mono HBA.out.size)); clear hb1 d0 d1 d2; obtain ⟨⟨d0, d1, d2⟩, -⟩ := bx3 hbox1)
  clear hbox hbox1
  by_cases k1 : K = 1
  · subst k1
    rw [if_pos rfl] at HF
    have heq := HEQ.out
    rw [HF.out] at heq
    go_wp2_with fail
    go_ret
    exact ⟨by rfl, HB1.out⟩
  have b1 : (K == 1) = false := beq_eq_false_iff_ne.2 k1
  rw [if_neg k1] at HF
  by_cases k2 : K = 2
  · subst k2
    rw [if_pos rfl] at HF
    have heq := HEQ.out
    obtain ⟨D, hD⟩ : ∃ D, decide (valF L m.nm = m.vl) = D := ⟨_, rfl⟩
    rw [hD] at heq HF
    clear hD
    go_wp2_with fail
    go_ret
    exact ⟨by rw [← HF.out]; rfl, HB1.out⟩
  have b2 : (K == 2) = false := beq_eq_false_iff_ne.2 k2
  rw [if_neg k2] at HF
  by_cases k3 : K = 3
  · subst k3
    rw [if_pos rfl] at HF
    rw [HF.out] at HPR
    clear k1 k2
    go_wp2_with (go_at_call 103; refine (HPR.out _).mono ?_; rintro e w2 ⟨rfl, rfl⟩)
    go_ret
    exact ⟨by rfl, HB1.out⟩
  have b3 : (K == 3) = false := beq_eq_false_iff_ne.2 k3
  rw [if_neg k3] at HF
  rw [HF.out] at HCO
  clear k1 k2 k3
  go_wp2_with (go_at_call 104; refine (HCO.out w1 HB1.out).mono ?_; rintro e w2 ⟨rfl, rfl⟩)
  go_ret
  exact ⟨by rfl, HB1.out⟩
theorem goL_val : ∀ (l : List Lb) (p : Option By), goL p l = 0 → ∀ x ∈ l, x.vl.length ≤ 40
  | [], _, _, x, hx => by simp at hx
  | y :: r, p, h, x, hx => by
    rw [goL_cons] at h
    split at h
    · exact absurd h (by decide)
    split at h
    · exact absurd h (by decide)
    split at h
    · exact absurd h (by decide)
    rename_i h3
    rcases List.mem_cons.1 hx with rfl | hx
    · omega
    · exact goL_val r _ h x hx
theorem valF_len {L : List Lb} (h : labelF L = 0) (n : By) : (valF L n).length ≤ 40 := by
  unfold labelF at h
  split at h
  · exact absurd h (by decide)
  · unfold valF
    cases hf : L.find? (fun x => decide (x.nm = n)) with
    | none => simp
    | some x => exact goL_val L none h x (List.mem_of_find?_eq_some hf)
/-- What Fits answers. -/
def fitsR (L : List Lb) (M : List Mt) : Bool × Int := if labelF L ≠ 0 then (false, labelF L) else if matchF M ≠ 0 then (false, matchF M) else (fitsB L M, 0)
end Go.Proofs.Ytlfhcjhbnakamaa.Lab
/-
  Rows that turn by swaps alone: as plain lists.
-/
namespace Go.Gh
set_option linter.unusedVariables false
set_option linter.unusedSimpArgs false
/-- The element at an index. -/
def el (D : List Int) (i : Nat) : Int := D.getD i 0
def sw (D : List Int) (i j : Nat) : List Int := (D.set i (el D j)).set j (el D i)
theorem sw_len (D : List Int) (i j : Nat) : (sw D i j).length = D.length := by unfold sw; rw [List.length_set, List.length_set]
theorem el_get {D : List Int} {i : Nat} (h : i < D.length) : D[i]? = some (el D i) := by
  unfold el
  rw [List.getD_eq_getElem?_getD, List.getElem?_eq_getElem h]
  rfl
theorem el_set {D : List Int} {i k : Nat} {x : Int} (hi : i < D.length) : el (D.set i x) k = if k = i then x else el D k := by
  unfold el
  rw [List.getD_eq_getElem?_getD, List.getD_eq_getElem?_getD, List.getElem?_set]
  by_cases h : i = k
  · subst h
    rw [if_pos rfl, if_pos rfl, if_pos hi]
    rfl
  · rw [if_neg h, if_neg (fun e => h e.symm)]
theorem sw_el {D : List Int} {i j k : Nat} (hi : i < D.length) (hj : j < D.length) : el (sw D i j) k = if k = j then el D i else if k = i then el D j else el D k := by
  unfold sw
  rw [el_set (by rw [List.length_set]; exact hj), el_set hi]
theorem sw_perm {D : List Int} {i j : Nat} (hi : i < D.length) (hj : j < D.length) : (sw D i j).Perm D := by
  have h : ((D.set i D[j]).set j D[i]).Perm D := List.set_set_perm hi hj
  have e1 : el D j = D[j] := by unfold el; rw [List.getD_eq_getElem?_getD, List.getElem?_eq_getElem hj]; rfl
  have e2 : el D i = D[i] := by unfold el; rw [List.getD_eq_getElem?_getD, List.getElem?_eq_getElem hi]; rfl
  unfold sw
  rw [e1, e2]
  exact h
/-- What comes of a row by swaps from a on, below b. -/
inductive Pm (a b : Nat) (D : List Int) : List Int → Prop
  | refl : Pm a b D D
  | step {E : List Int} {i j : Nat} : Pm a b D E → a ≤ i → i < b → a ≤ j → j < b → Pm a b D (sw E i j)
theorem Pm.len {a b : Nat} {D E : List Int} (h : Pm a b D E) : E.length = D.length := by
  induction h with
  | refl => rfl
  | step _ _ _ _ _ ih => rw [sw_len, ih]
theorem Pm.trans {a b : Nat} {D E F : List Int} (h : Pm a b D E) (h2 : Pm a b E F) : Pm a b D F := by
  induction h2 with
  | refl => exact h
  | step _ h1 h2 h3 h4 ih => exact ih.step h1 h2 h3 h4
theorem Pm.mono {a b a' b' : Nat} {D E : List Int} (h : Pm a b D E) (ha : a' ≤ a) (hb : b ≤ b') : Pm a' b' D E := by
  induction h with
  | refl => exact .refl
  | step _ h1 h2 h3 h4 ih => exact ih.step (by omega) (by omega) (by omega) (by omega)
theorem Pm.one {a b i j : Nat} {D : List Int} (h1 : a ≤ i) (h2 : i < b) (h3 : a ≤ j) (h4 : j < b) : Pm a b D (sw D i j) := Pm.refl.step h1 h2 h3 h4
theorem Pm.out {a b : Nat} {D E : List Int} (h : Pm a b D E) (hb : b ≤ D.length) {k : Nat} (hk : k < a ∨ b ≤ k) : el E k = el D k := by
  induction h with
  | refl => rfl
  | step h h1 h2 h3 h4 ih =>
    rw [sw_el (by rw [h.len]; omega) (by rw [h.len]; omega), if_neg (by omega), if_neg (by omega), ih]
theorem Pm.all {a b : Nat} {D E : List Int} (h : Pm a b D E) (hb : b ≤ D.length) (P : Int → Prop) (hP : ∀ k, a ≤ k → k < b → P (el D k)) : ∀ k, a ≤ k → k < b → P (el E k) := by
  induction h with
  | refl => exact hP
  | step h h1 h2 h3 h4 ih =>
    intro k hk hk2
    rw [sw_el (by rw [h.len]; omega) (by rw [h.len]; omega)]
    split
    · exact ih _ h1 h2
    · split
      · exact ih _ h3 h4
      · exact ih _ hk hk2
theorem Pm.perm {a b : Nat} {D E : List Int} (h : Pm a b D E) (hb : b ≤ D.length) : E.Perm D := by
  induction h with
  | refl => exact List.Perm.refl _
  | step h h1 h2 h3 h4 ih => exact (sw_perm (by rw [h.len]; omega) (by rw [h.len]; omega)).trans ih
/-- Rising from a on, below b. -/
def Rs (a b : Nat) (D : List Int) : Prop := ∀ i j, a ≤ i → i < j → j < b → el D i ≤ el D j
theorem rs_step {a b : Nat} {D : List Int} (h : ∀ i, a ≤ i → i + 1 < b → el D i ≤ el D (i + 1)) : Rs a b D := by
  intro i j hi hij hj
  induction j with
  | zero => omega
  | succ j ih =>
    by_cases e : i = j
    · subst e; exact h i hi hj
    · exact Int.le_trans (ih (by omega) (by omega)) (h j (by omega) hj)
/-- What is left to turn: from a on, below b, within a0 and b0; all else is where it belongs. -/
def Fr (a0 b0 a b : Nat) (D : List Int) : Prop := (∀ i j, a0 ≤ i → i < a → i < j → j < b0 → el D i ≤ el D j) ∧ ∀ i j, b ≤ j → j < b0 → a0 ≤ i → i < j → el D i ≤ el D j
theorem fr_all (a0 b0 : Nat) (D : List Int) : Fr a0 b0 a0 b0 D := ⟨fun i j h1 h2 => by omega, fun i j h1 h2 => by omega⟩
theorem Fr.pm {a0 b0 a b : Nat} {D E : List Int} (h : Fr a0 b0 a b D) (hp : Pm a b D E) (hl : b0 ≤ D.length) (h1 : a0 ≤ a) (h2 : b ≤ b0) : Fr a0 b0 a b E := by
  have hb : b ≤ D.length := by omega
  constructor
  · intro i j hi hia hij hj
    rw [hp.out hb (k := i) (Or.inl hia)]
    by_cases hja : a ≤ j ∧ j < b
    · exact hp.all hb (fun x => el D i ≤ x) (fun k hk1 hk2 => h.1 i k hi hia (by omega) (by omega)) j hja.1 hja.2
    · rw [hp.out hb (k := j) (by omega)]
      exact h.1 i j hi hia hij hj
  · intro i j hj hj2 hi hij
    rw [hp.out hb (k := j) (Or.inr hj)]
    by_cases hia : a ≤ i ∧ i < b
    · exact hp.all hb (fun x => x ≤ el D j) (fun k hk1 hk2 => h.2 k j hj hj2 (by omega) (by omega)) i hia.1 hia.2
    · rw [hp.out hb (k := i) (by omega)]
      exact h.2 i j hj hj2 hi hij
theorem Fr.done {a0 b0 a b : Nat} {D : List Int} (h : Fr a0 b0 a b D) (hr : Rs a b D) : Rs a0 b0 D := by
  intro i j hi hij hj
  by_cases h1 : i < a
  · exact h.1 i j hi h1 hij hj
  · by_cases h2 : b ≤ j
    · exact h.2 i j h2 hj hi hij
    · exact hr i j (by omega) hij (by omega)
end Go.Gh
