/-
  Rows of labels beside other rows that turn; slices.Clone at labels.
-/
import Derived.Test.YtjmplhkdohlbcaaGreatDoorEz2
import Derived.Test.YtjmplhkdohlbcaaGreatDoorEz3
import Derived.Test.YtjmplhkdohlbcaaGreatDoorEz4
import Derived.Test.YtjmplhkdohlbcaaGreatDoorEz7
import Derived.Test.YtjmplhkdohlbcaaGreatDoorEz8
import Derived.Lib.SmallJoins
import Derived.Deep.RegionHeld3
import Derived.Shelf.Lay
import Derived.Shelf.LaySoft
import Derived.Shelf.LaysM
import Derived.Shelf.Strings.Search1
import Derived.Shelf.Strings.Search2
import Derived.Shelf.Strings.Search3
import Derived.Test.YtjmplhkdohlbcaaGreatDoorProg
import Derived.Shelf.Strings.Prefix
import Derived.Ground.Names2Prog
import Derived.Test.YtjmplhkdohlbcaaGreatDoorRows
import Derived.IntWalk
import Derived.Deep.LoopGhost
import Derived.Shelf.Abstract
namespace Go.Proofs.YtjmplhkdohlbcaaGreatDoor.Evl
open Go.RowKit Go.Gh Go.WideShapes Go.Proofs.YtjmplhkdohlbcaaGreatDoor.Lab
set_option linter.unusedVariables false
set_option linter.unusedSimpArgs false
/-- No block of that type is turned. -/
def Off (w : World) (row : Option Nat) (e : TypeId) : Prop := ∀ r, row = some r → ∀ cur fr, w.heap[r]? ≠ some (.cells cur e fr)
theorem off_none (w : World) (e : TypeId) : Off w none e := fun r h => by cases h
theorem own_off {w : World} {B size n : Nat} {e : TypeId} {v : Value} {xs : List Value} {row : Option Nat} (h : w.ownsRow B e size v n xs) (ho : Off w row e) : v.ownBlock = none ∨ v.ownBlock ≠ row := by
  rcases h.2 with ⟨rfl, _⟩ | ⟨g, cap, cur, rfl, _, hg, _⟩
  · exact Or.inl rfl
  · refine Or.inr (fun e1 => ?_)
    exact ho g (by rw [← e1]; rfl) cur (0, 0) hg
theorem off_row {w : World} {B size n : Nat} {e e' : TypeId} {v : Value} {xs : List Value} (h : w.ownsRow B e size v n xs) (hne : e ≠ e') : Off w v.ownBlock e' := by
  rcases h.2 with ⟨rfl, _⟩ | ⟨g, cap, cur, rfl, _, hg, _⟩
  · exact fun r h => by cases h
  · intro r hr cur' fr hr'
    obtain rfl : g = r := by simpa [Value.ownBlock] using hr
    rw [hg] at hr'
    simp at hr'
    exact hne hr'.2.1
theorem off_box {w : World} {b : Nat} {cs : Array Value} {T e' : TypeId} {fr : Nat × Nat} (h : w.heap[b]? = some (.cells cs T fr)) (hne : T ≠ e') : Off w (some b) e' := by
  intro r hr cur' fr' hr'
  obtain rfl : b = r := by simpa using hr
  rw [h] at hr'
  simp at hr'
  exact hne hr'.2.1
theorem grown_of_below {w w' : World} (h : Below w.heap.size w w') : w.grownBy w' none := ⟨h.os, h.tape, h.output, h.size, fun k hk _ => h.block k hk⟩
theorem grown_set (w : World) (p : Addr) (u : Value) : w.grownBy (w.setCell p u) (some p.block) := ⟨rfl, rfl, rfl, by simp [World.setCell], fun k hk hne => Below.heap_setCell w p u k (fun e => hne (by rw [e]))⟩
theorem ow_turn {B : Nat} {w w' : World} {row : Option Nat} {t : Value} {l : List Lb} (h : Ow LbR 2 75 B w t l) (hg : w.grownBy w' row) (ho : Off w row 75) : Ow LbR 2 75 B w' t l := by
  obtain ⟨P, h1, h2, h3, h4⟩ := h
  exact ⟨P, h1, h2, h3, h4.kept hg (own_off h4 ho)⟩
theorem infoLb : (Tryz.prog.info? 75).map (fun i => (i.zero, i.size, i.bytes)) = some (some (.agg #[.string ByteArray.empty, .string ByteArray.empty]), 2, 32) := by kernel_rfl
theorem elLb : Elem Tryz.prog 22 75 2 32 := elem_of Tryz.underlying22 infoLb rfl (by decide)
theorem lb_one {w : World} {x : Lb} {c : List Value} (h : LbR w x c) : ∀ u ∈ c, u.oneCell' = true := by
  obtain ⟨rfl, _⟩ := h
  intro u hu
  simp at hu
  rcases hu with rfl | rfl <;> rfl
theorem pc_one {P : List (Lb × List Value)} (h : ∀ p ∈ P, ∀ u ∈ p.2, u.oneCell' = true) : ∀ u ∈ pc P, u.oneCell' = true := by
  intro u hu
  unfold pc at hu
  obtain ⟨p, hp, hu⟩ := List.mem_flatMap.1 hu
  exact h p hp u hu
set_option maxRecDepth 100000 in
theorem clone_lb (v : Value) (L : List Lb) (w : World) (hs : Sp LbR 2 w v L) (hl : L.length ≤ 1000) : Calls Tryz.prog 108 #[v] w fun e w' =>
    ∃ v', e = .returned v' ∧ Ow LbR 2 75 w.heap.size w' v' L ∧ Below w.heap.size w w' := by
  obtain ⟨P, hP1, hP2, hP3, hv⟩ := hs
  obtain ⟨n, hn⟩ : ∃ n, L.length = n := ⟨_, rfl⟩
  rw [hn] at hv hl
  have hpl : P.length = n := by rw [← hn, ← hP1, List.length_map]
  obtain ⟨ao, c, rfl, hnc, hc, hlen⟩ := hv.shape
  have h1 := pc_one (fun p hp => lb_one (hP3 p hp))
  have HP := Lib.hid (And.intro hP1 (And.intro hP2 hP3))
  cases ao with
  | none =>
    have hn0 : n = 0 := by
      obtain ⟨ao', cap, h1, h2, _, h4, _, h6⟩ := hv
      simp at h1
      have := h4 h1.1.symm
      omega
    subst hn0
    have hl0 : L = [] := List.length_eq_zero_iff.1 hn
    subst hl0
    have he := Lib.run_eql_slice_nil (P := Tryz.prog) w 22 75 none 0 c 0 0 Tryz.underlying22
    clear hP1 hP2 hP3 h1 hv
    go_enter Tryz.func108, Tryz.ntmps108
    go_wp2_with fail
    go_ret
    exact ⟨_, rfl, Ow.nil, Below.refl _ _⟩
  | some a =>
    have he := Lib.run_eql_slice_nil (P := Tryz.prog) w 22 75 (some a) n c 0 0 Tryz.underlying22
    have ho := own_build (e := 75) (size := 2) (n := 0) w [] (Nat.le_refl _) rfl (by decide)
    have hs2 := hv.alloc (Obj.cells ([] : List Value).toArray 75)
    have HN := Lib.hid hl
    clear hlen hP1 hP2 hP3 hl
    go_enter Tryz.func108, Tryz.ntmps108
    go_wp2_with (at_builtin; refine appendS elLb rfl _ _ rfl ho ((Below.refl _ _).alloc (Nat.le_refl _) _) ?c1 rfl rfl hs2 h1 ?c2 ?c3 ?_)
    case c1 => simp
    case c2 => have := HN.out; omega
    case c3 => have := HN.out; omega
    intro v' w1 hown' hbel' _
    have HO : Hid (Ow LbR 2 75 w.heap.size w1 v' L) := Lib.hid ⟨P, HP.out.1, HP.out.2.1, fun p hp => HP.out.2.2 p hp, by rw [hn]; simpa using hown'⟩
    have HB := Lib.hid hbel'
    clear hown' hbel'
    go_wp2
    go_ret
    exact ⟨v', rfl, HO.out, HB.out⟩
end Go.Proofs.YtjmplhkdohlbcaaGreatDoor.Evl
/-
  Rows and series in memory.
-/
namespace Go.Proofs.YtjmplhkdohlbcaaGreatDoor.Evl
open Go.RowKit Go.Gh Go.WideShapes Go.Proofs.YtjmplhkdohlbcaaGreatDoor.Lab
set_option linter.unusedVariables false
set_option linter.unusedSimpArgs false
/-- A row's three cells: the text, the labels in a row of one's own, the number. -/
def RwO (B : Nat) (w : World) (r : Rw) (c : List Value) : Prop := ∃ t, c = [.string (mkS (kyL r.1)), t, .int .i64 r.2] ∧ Ow LbR 2 75 B w t r.1
/-- The document's row: labels, a number. -/
def RdR (w : World) (r : Rw) (c : List Value) : Prop := ∃ t, c = [t, .int .i64 r.2] ∧ Sp LbR 2 w t r.1
theorem rdR_mono : Mono RdR := fun w w' a c ⟨t, h1, h2⟩ hb => ⟨t, h1, h2.below lbR_mono hb⟩
theorem RwO.turn {B : Nat} {w w' : World} {row : Option Nat} {r : Rw} {c : List Value} (h : RwO B w r c) (hg : w.grownBy w' row) (ho : Off w row 75) : RwO B w' r c := by
  obtain ⟨t, h1, h2⟩ := h
  exact ⟨t, h1, ow_turn h2 hg ho⟩
theorem rwO_mono (B : Nat) : Mono (RwO B) := fun w w' a c h hb => h.turn (grown_of_below hb) (off_none _ _)
theorem RwO.low {B B' : Nat} {w : World} {r : Rw} {c : List Value} (h : RwO B w r c) (hb : B' ≤ B) : RwO B' w r c := by
  obtain ⟨t, h1, h2⟩ := h
  exact ⟨t, h1, h2.mono hb⟩
/-- A series' two cells: labels, samples. -/
def SrR (w : World) (s : Srs) (c : List Value) : Prop := ∃ t u, c = [t, u] ∧ Sp LbR 2 w t s.1 ∧ Sl w 2 u s.2.length (rowCells s.2) ∧ Rows64 2 s.2 ∧ s.2.length ≤ 140737488355328
theorem srR_mono : Mono SrR := fun w w' a c ⟨t, u, h1, h2, h3, h4⟩ hb => ⟨t, u, h1, h2.below lbR_mono hb, h3.below hb, h4⟩
theorem rw_one {B : Nat} {w : World} {r : Rw} {c : List Value} (h : RwO B w r c) : ∀ u ∈ c, u.oneCell' = true := by
  obtain ⟨t, rfl, ht⟩ := h
  obtain ⟨ao, cp, rfl, -⟩ := ht.shape
  intro u hu
  simp at hu
  rcases hu with rfl | rfl | rfl <;> rfl
set_option maxRecDepth 100000 in
theorem infoRw : (Tryz.prog.info? 98).map (fun i => (i.zero, i.size, i.bytes)) = some (some (.agg #[.string ByteArray.empty, .slice none 0 0, .int .i64 0]), 3, 48) := by kernel_rfl
set_option maxRecDepth 100000 in
theorem elRw : Elem Tryz.prog 91 98 3 48 := elem_of Tryz.underlying91 infoRw rfl (by decide)
end Go.Proofs.YtjmplhkdohlbcaaGreatDoor.Evl
/-
  The walks of rowOf, both, single.
-/
namespace Go.Proofs.YtjmplhkdohlbcaaGreatDoor.Evl
open Go.RowKit Go.Gh Go.WideShapes Go.Proofs.YtjmplhkdohlbcaaGreatDoor.Lab
set_option linter.unusedVariables false
set_option linter.unusedSimpArgs false
set_option maxRecDepth 100000 in
theorem both_any (k a b : Int) (w : World) : Calls Tryz.prog 113 #[.int .i64 k, .int .i64 a, .int .i64 b] w fun e w' => e = .returned (.int .i64 (bothK k a b)) ∧ w = w' := by
  unfold bothK
  by_cases h6 : k = 6
  · rw [if_pos h6]
    subst h6
    go_enter Tryz.func113, Tryz.ntmps113
    go_wp2
    go_ret
    exact ⟨by rw [IntWalk.i64_left]; rfl, rfl⟩
  rw [if_neg h6]
  by_cases h7 : k = 7
  · rw [if_pos h7]
    subst h7
    go_enter Tryz.func113, Tryz.ntmps113
    go_wp2
    go_ret
    exact ⟨by rw [IntWalk.i64_left]; rfl, rfl⟩
  rw [if_neg h7]
  go_enter Tryz.func113, Tryz.ntmps113
  go_wp2
  go_ret
  exact ⟨by rw [IntWalk.i64_left]; rfl, rfl⟩
/-- What rowOf answers. -/
def RofP (w : World) (L : List Lb) (n : Int) (e : Ending) (w' : World) : Prop := ∃ t, e = .returned (.agg #[.string (mkS (kyL L)), t, .int .i64 n]) ∧ Ow LbR 2 75 w.heap.size w' t L ∧ Below w.heap.size w w'
set_option maxHeartbeats 4000000 in
set_option maxRecDepth 100000 in
theorem rowof_any (v : Value) (L : List Lb) (n : Int) (w : World) (hs : Sp LbR 2 w v L) (h0 : labelF L = 0) (hT : STab w) : Calls Tryz.prog 81 #[v, .int .i64 n] w (RofP w L n) := by
  have h10 := labelF_len h0
  obtain ⟨m, hm⟩ : ∃ m, L.length = m := ⟨_, rfl⟩
  obtain ⟨ao, c, rfl, hnc, hc⟩ := hs.shapeN hm
  obtain ⟨W, hW⟩ : ∃ W, W = w.alloc (.cells #[.string ⟨#[]⟩, .slice none 0 0, .int .i64 0] 98) := ⟨_, rfl⟩
  have hbW : Below w.heap.size w W := by rw [hW]; exact (Below.refl _ w).alloc (Nat.le_refl _) _
  have hsz : W.heap.size = w.heap.size + 1 := by rw [hW]; simp
  have hbox : W.heap[w.heap.size]? = some (.cells #[.string ⟨#[]⟩, .slice none 0 0, .int .i64 0] 98 (0, 0)) := by rw [hW]; exact heap_alloc_new w _
  have HT := Lib.hid (text2_any _ L W (hs.below lbR_mono hbW) (hT.below hbW))
  have HC := Lib.hid (fun W1 (hb : Below W.heap.size W W1) => clone_lb (.slice ao m c) L W1 ((hs.below lbR_mono hbW).below lbR_mono hb) (by omega))
  rw [h0] at HT
  have HBW := Lib.hid hbW
  have HSZ := Lib.hid hsz
  have HX := Lib.hid hbox
  go_enter Tryz.func81, Tryz.ntmps81
  have HM := Lib.hid hm
  clear hs h0 hT hm hbW hsz hbox
  go_upto_region 1 with (fail)
  rw [← hW]
  clear hW
  generalize hbx : w.heap.size = bx at *
  go_wp2_with (first
    | (go_at_call 8; refine HT.out.mono ?_; rintro e w1 ⟨rfl, hb1⟩; rw [if_pos rfl]; have HB1 := Lib.hid hb1; clear hb1)
    | (go_at_call 108; refine (HC.out w1 HB1.out).mono ?_; rintro e w2 ⟨t, rfl, ho2, hb2⟩; obtain ⟨at2, ct2, rfl, -, -⟩ := ho2.sp.shapeN HM.out; have HO2 := Lib.hid (And.intro ho2 hb2); have HB2 := Lib.hid (HB1.out.trans (hb2.mono HB1.out.size)); clear hb2 ho2
       obtain ⟨⟨f0, f1, f2⟩, ⟨z0, z1, z2⟩⟩ := bx3 ((HB2.out.block bx (by rw [HSZ.out]; omega)).trans HX.out)))
  obtain ⟨w3, hw3⟩ : ∃ w3, w3 = ((w2.setCell ⟨bx, 0, none⟩ (.string (mkS (textM (asM L))))).setCell ⟨bx, 1, none⟩ (.slice at2 m ct2)).setCell ⟨bx, 2, none⟩ (.int .i64 n) := ⟨_, rfl⟩
  rw [← hw3]
  have s0 : w3.cell? ⟨bx, 0, none⟩ = some (.string (mkS (textM (asM L)))) := by rw [hw3]; go_simp
  have s1 : w3.cell? ⟨bx, 1, none⟩ = some (.slice at2 m ct2) := by rw [hw3]; go_simp
  have s2 : w3.cell? ⟨bx, 2, none⟩ = some (.int .i64 n) := by rw [hw3]; go_simp
  refine bodyPost_ret (v := .agg #[.string (mkS (textM (asM L))), .slice at2 m ct2, .int .i64 n]) (by simp [results, Tryz.results81, go_sem, s0, s1, s2]) rfl ?_
  have hb0 : Below bx w w2 := HBW.out.trans (HB2.out.mono (by rw [HSZ.out]; omega))
  have hg : w2.grownBy w3 (some bx) := by rw [hw3]; exact ⟨rfl, rfl, rfl, by simp [World.setCell], fun k hk hne => by rw [Below.heap_setCell _ _ _ _ (fun e => hne (by rw [e])), Below.heap_setCell _ _ _ _ (fun e => hne (by rw [e])), Below.heap_setCell _ _ _ _ (fun e => hne (by rw [e]))]⟩
  have hbx2 := (HB2.out.block bx (by rw [HSZ.out]; omega)).trans HX.out
  refine ⟨_, rfl, ?_, ?_⟩
  · exact (ow_turn HO2.out.1 hg (off_box hbx2 (by decide))).mono (by have := HB1.out.size; rw [HSZ.out] at this; omega)
  · rw [hbx]
    rw [hw3]
    exact ((hb0.setCell (by show bx ≤ bx; omega) _).setCell (by show bx ≤ bx; omega) _).setCell (by show bx ≤ bx; omega) _
end Go.Proofs.YtjmplhkdohlbcaaGreatDoor.Evl
/-
  The walk of single.
-/
namespace Go.Proofs.YtjmplhkdohlbcaaGreatDoor.Evl
open Go.RowKit Go.Gh Go.WideShapes Go.Proofs.YtjmplhkdohlbcaaGreatDoor.Lab
set_option linter.unusedVariables false
set_option linter.unusedSimpArgs false
set_option maxHeartbeats 2000000 in
set_option maxRecDepth 100000 in
theorem single_any (v : Value) (S : List Rw) (B : Nat) (w : World) (hs : Sp (RwO B) 3 w v S) : Calls Tryz.prog 112 #[v] w fun e w' => e = .returned (.bool (aloneS S)) ∧ w = w' := by
  obtain ⟨n, hn⟩ : ∃ n, S.length = n := ⟨_, rfl⟩
  obtain ⟨ao, c, rfl, hnc, hc⟩ := hs.shapeN hn
  by_cases h1 : n = 1
  · subst h1
    obtain ⟨r, rfl⟩ := List.length_eq_one_iff.1 hn
    obtain ⟨b, off, cs, rfl, hr, hl, hat⟩ := hs.headN
    obtain ⟨t, rfl, ht⟩ := hr
    obtain ⟨m, hm⟩ : ∃ m, r.1.length = m := ⟨_, rfl⟩
    obtain ⟨at2, ct2, rfl, -, -⟩ := ht.sp.shapeN hm
    have f1 := hat 1 _ rfl
    have e : aloneS [r] = decide (m = 0) := by show decide (r.1.length = 0) = _; rw [hm]
    rw [e]
    obtain ⟨D, hD⟩ : ∃ D, decide (m = 0) = D := ⟨_, rfl⟩
    have hD2 : (((m : Nat) : Int) == 0) = D := by rw [← hD]; by_cases h : m = 0 <;> simp [h]
    rw [hD]
    clear hs hn hat hm ht hl e hD
    go_enter Tryz.func112, Tryz.ntmps112
    go_wp2
    go_ret
    exact ⟨rfl, rfl⟩
  · have e : aloneS S = false := by
      unfold aloneS
      split
      · exact absurd hn.symm (by simpa using h1)
      · rfl
    rw [e]
    have t1 : (((n : Nat) : Int) == 1) = false := by simp; omega
    clear hs hn e
    go_enter Tryz.func112, Tryz.ntmps112
    go_wp2
    go_ret
    exact ⟨rfl, rfl⟩
end Go.Proofs.YtjmplhkdohlbcaaGreatDoor.Evl
/-
  Contracts of the library at this program, laid by the kit's own tool (in plain words).
-/
namespace Go.Proofs
open Go.Shelf
def YtjmplhkdohlbcaaGreatDoor.lays144_ren : Go.Shelf.Ren := ⟨fun | 144 => 73 | 143 => 102 | 219 => 130 | 217 => 164 | 225 => 134 | 224 => 133 | 267 => 165 | 266 => 187 | 314 => 188 | n => n, fun | 9 => 9 | 4 => 4 | 3 => 3 | 5 => 5 | 46 => 165 | 146 => 248 | 51 => 173 | n => n, fun | 1 => 2 | n => n⟩
theorem YtjmplhkdohlbcaaGreatDoor.lays144 : Go.Proofs.Lays.n144 Tryz.prog YtjmplhkdohlbcaaGreatDoor.lays144_ren := {
  mixed := by kernel_rfl
  f143 := Tryz.func102.trans (congrArg some (by kernel_rfl))
  f144 := Tryz.func73.trans (congrArg some (by kernel_rfl))
  f217 := Tryz.func164.trans (congrArg some (by kernel_rfl))
  f219 := Tryz.func130.trans (congrArg some (by kernel_rfl))
  f224 := Tryz.func133.trans (congrArg some (by kernel_rfl))
  f225 := Tryz.func134.trans (congrArg some (by kernel_rfl))
  f266 := Tryz.func187.trans (congrArg some (by kernel_rfl))
  f267 := Tryz.func165.trans (congrArg some (by kernel_rfl))
  f314 := Tryz.func188.trans (congrArg some (by kernel_rfl))
  t3 := Tryz.underlying3
  a3 := Tryz.isAgg3
  z3 := Tryz.sizeOf3
  v3 := Tryz.zeroValue3
  t4 := Tryz.underlying4
  a4 := Tryz.isAgg4
  z4 := Tryz.sizeOf4
  v4 := Tryz.zeroValue4
  t5 := Tryz.underlying5
  a5 := Tryz.isAgg5
  z5 := Tryz.sizeOf5
  v5 := Tryz.zeroValue5
  t9 := Tryz.underlying9
  a9 := Tryz.isAgg9
  z9 := Tryz.sizeOf9
  v9 := Tryz.zeroValue9
  t46 := Tryz.underlying165
  a46 := Tryz.isAgg165
  z46 := Tryz.sizeOf165
  v46 := Tryz.zeroValue165
  t51 := Tryz.underlying173
  a51 := Tryz.isAgg173
  z51 := Tryz.sizeOf173
  v51 := Tryz.zeroValue173
  t146 := Tryz.underlying248
  a146 := Tryz.isAgg248
  z146 := Tryz.sizeOf248
  v146 := Tryz.zeroValue248
  g1 := by kernel_rfl }
open Go.RowKit Go.Lib in
theorem YtjmplhkdohlbcaaGreatDoor.strings_Contains (s sub : ByteArray) (m : Int) (w : World) (hs : s.size < 4294967281) (hm : w.cell? ⟨2, 0, none⟩ = some (.int .i64 m)) :
    Calls Tryz.prog 73 #[.string s, .string sub] w fun e w' => e = .returned (.bool (Lib.contains s.data.toList sub.data.toList)) ∧ w' = w := Any.strings_Contains YtjmplhkdohlbcaaGreatDoor.lays144 s sub m w hs hm
end Go.Proofs
/-
  Contracts of the library at this program, laid by the kit's own tool (in plain words).
-/
namespace Go.Proofs
open Go.Shelf
def YtjmplhkdohlbcaaGreatDoor.hlays99_ren : Go.Shelf.Ren := ⟨fun | 99 => 72 | 206 => 101 | n => n, fun | 9 => 9 | 4 => 4 | 3 => 3 | n => n, fun | n => n⟩
theorem YtjmplhkdohlbcaaGreatDoor.hlays99 : Go.Proofs.Lays.n99 Tryz.prog YtjmplhkdohlbcaaGreatDoor.hlays99_ren := {
  mixed := by kernel_rfl
  f99 := Tryz.func72.trans (congrArg some (by kernel_rfl))
  f206 := Tryz.func101.trans (congrArg some (by kernel_rfl))
  t3 := Tryz.underlying3
  a3 := Tryz.isAgg3
  z3 := Tryz.sizeOf3
  v3 := Tryz.zeroValue3
  t4 := Tryz.underlying4
  a4 := Tryz.isAgg4
  z4 := Tryz.sizeOf4
  v4 := Tryz.zeroValue4
  t9 := Tryz.underlying9
  a9 := Tryz.isAgg9
  z9 := Tryz.sizeOf9
  v9 := Tryz.zeroValue9 }
open Go.RowKit Go.Lib in
theorem YtjmplhkdohlbcaaGreatDoor.hstrings_HasPrefix (s p : ByteArray) (w : World) :
    Calls Tryz.prog 72 #[.string s, .string p] w fun e w' => e = .returned (.bool (Lib.hasPrefix s.data.toList p.data.toList)) ∧ w' = w := Any.strings_HasPrefix YtjmplhkdohlbcaaGreatDoor.hlays99 s p w
end Go.Proofs
/-
  Labels that fit matches: the walks of Fit and Fits.
-/
namespace Go.Proofs.YtjmplhkdohlbcaaGreatDoor.Lab
open Go.RowKit Go.Gh
set_option linter.unusedVariables false
set_option linter.unusedSimpArgs false
theorem mkS_dataF (l : By) : (mkS l).data.toList = l := rfl
/-- The library's variable: some number. -/
def MTab (w : World) : Prop := ∃ q : Int, w.cell? ⟨2, 0, none⟩ = some (.int .i64 q)
theorem MTab.below {w w' : World} (h : MTab w) (hb : Below w.heap.size w w') : MTab w' := by
  obtain ⟨q, hq⟩ := h
  exact ⟨q, (hb.cell (p := ⟨_, 0, none⟩) (cell_lt hq)).trans hq⟩
theorem contains_any (a b : By) (w : World) (hM : MTab w) (ha : a.length ≤ 1048576) : Calls Tryz.prog 73 #[.string (mkS a), .string (mkS b)] w fun e w' => e = .returned (.bool (Lib.contains a b)) ∧ w' = w := by
  obtain ⟨q, hq⟩ := hM
  have h := YtjmplhkdohlbcaaGreatDoor.strings_Contains (mkS a) (mkS b) q w (by rw [mkS_size]; omega) hq
  rwa [mkS_dataF, mkS_dataF] at h
theorem prefix_any (a b : By) (w : World) : Calls Tryz.prog 72 #[.string (mkS a), .string (mkS b)] w fun e w' => e = .returned (.bool (b.isPrefixOf a)) ∧ w' = w := by
  have h := YtjmplhkdohlbcaaGreatDoor.hstrings_HasPrefix (mkS a) (mkS b) w
  rw [mkS_dataF, mkS_dataF] at h
  exact h
theorem str_eq (a b : By) : ((mkS a).toList == (mkS b).toList) = decide (a = b) := by
  rw [mkS_list, mkS_list, Bool.eq_iff_iff]
  simp
set_option maxHeartbeats 4000000 in
set_option maxRecDepth 100000 in
theorem fit_any (v : Value) (L : List Lb) (m : Mt) (w : World) (hs : Sp LbR 2 w v L) (hM : MTab w) (hv : (valF L m.nm).length ≤ 1048576) : Calls Tryz.prog 48 #[v, .agg #[.int .i64 m.kd, .string (mkS m.nm), .string (mkS m.vl)]] w fun e w' => e = .returned (.bool (fitB L m)) ∧ Below w.heap.size w w' := by
  obtain ⟨ao, c, rfl, -, -⟩ := hs.shape
  obtain ⟨n, hn⟩ : ∃ n, L.length = n := ⟨_, rfl⟩
  rw [hn] at hs ⊢
  have HS := Lib.hid hs
  have HVA := Lib.hid (fun W (hb : Below w.heap.size w W) => value_any _ L m.nm W (hs.below lbR_mono hb))
  have HCO := Lib.hid (fun W (hb : Below w.heap.size w W) => contains_any (valF L m.nm) m.vl W (hM.below hb) hv)
  have HPR := Lib.hid (fun W => prefix_any (valF L m.nm) m.vl W)
  have HEQ := Lib.hid (str_eq (valF L m.nm) m.vl)
  obtain ⟨F, hF⟩ : ∃ F, fitB L m = F := ⟨_, rfl⟩
  rw [hF]
  unfold fitB at hF
  have HF := Lib.hid hF
  obtain ⟨K, hK⟩ : ∃ z, m.kd = z := ⟨_, rfl⟩
  obtain ⟨Sn, hSn⟩ : ∃ z, mkS m.nm = z := ⟨_, rfl⟩
  obtain ⟨Mv, hMv⟩ : ∃ z, mkS m.vl = z := ⟨_, rfl⟩
  obtain ⟨V, hV⟩ : ∃ z, mkS (valF L m.nm) = z := ⟨_, rfl⟩
  rw [hSn, hV] at HVA
  rw [hV, hMv] at HCO HPR HEQ
  rw [hK] at HF
  rw [hK, hSn, hMv]
  clear hn hs hM hv hF hK hSn hMv hV
  obtain ⟨wa, hwa⟩ : ∃ wa, wa = w.alloc (Obj.cells #[.int .i64 K, .string Sn, .string Mv] 73) := ⟨_, rfl⟩
  have hbox : wa.heap[w.heap.size]? = some (.cells #[.int .i64 K, .string Sn, .string Mv] 73 (0, 0)) := by rw [hwa]; exact heap_alloc_new w _
  have hba : Below w.heap.size w wa := by rw [hwa]; exact (Below.refl _ _).alloc (Nat.le_refl _) _
  have hsa : w.heap.size < wa.heap.size := by rw [hwa]; simp
  have HBA := Lib.hid hba
  have HWA := Lib.hid hwa
  clear hba hwa
  go_enter Tryz.func48, Tryz.ntmps48
  go_upto_region 1 with (fail)
  rw [← HWA.out]
  obtain ⟨⟨d0, d1, d2⟩, -⟩ := bx3 hbox
  have HC1 := Lib.hid (HVA.out wa HBA.out)
  obtain ⟨bx, hbx⟩ : ∃ bx, w.heap.size = bx := ⟨_, rfl⟩
  rw [hbx] at hbox hsa d0 d1 d2 ⊢
  have HBX := Lib.hid hbx
  clear hbx
  go_upto_region 2 with (go_at_call 71; refine HC1.out.mono ?_; rintro e w1 ⟨rfl, hb1⟩; have hbox1 := (hb1.block bx hsa).trans hbox; have HB1 := Lib.hid (HBA.out.trans (hb1.mono HBA.out.size)); clear hb1 d0 d1 d2; obtain ⟨⟨d0, d1, d2⟩, -⟩ := bx3 hbox1)
  clear hbox hbox1
  by_cases k1 : K = 1
  · subst k1
    rw [if_pos rfl] at HF
    have heq := HEQ.out
    rw [HF.out] at heq
    go_wp2_with fail
    go_ret
    exact ⟨by rfl, HB1.out⟩
  have b1 : (K == 1) = false := beq_eq_false_iff_ne.2 k1
  rw [if_neg k1] at HF
  by_cases k2 : K = 2
  · subst k2
    rw [if_pos rfl] at HF
    have heq := HEQ.out
    obtain ⟨D, hD⟩ : ∃ D, decide (valF L m.nm = m.vl) = D := ⟨_, rfl⟩
    rw [hD] at heq HF
    clear hD
    go_wp2_with fail
    go_ret
    exact ⟨by rw [← HF.out]; rfl, HB1.out⟩
  have b2 : (K == 2) = false := beq_eq_false_iff_ne.2 k2
  rw [if_neg k2] at HF
  by_cases k3 : K = 3
  · subst k3
    rw [if_pos rfl] at HF
    rw [HF.out] at HPR
    clear k1 k2
    go_wp2_with (go_at_call 72; refine (HPR.out _).mono ?_; rintro e w2 ⟨rfl, rfl⟩)
    go_ret
    exact ⟨by rfl, HB1.out⟩
  have b3 : (K == 3) = false := beq_eq_false_iff_ne.2 k3
  rw [if_neg k3] at HF
  rw [HF.out] at HCO
  clear k1 k2 k3
  go_wp2_with (go_at_call 73; refine (HCO.out w1 HB1.out).mono ?_; rintro e w2 ⟨rfl, rfl⟩)
  go_ret
  exact ⟨by rfl, HB1.out⟩
theorem goL_val : ∀ (l : List Lb) (p : Option By), goL p l = 0 → ∀ x ∈ l, x.vl.length ≤ 40
  | [], _, _, x, hx => by simp at hx
  | y :: r, p, h, x, hx => by
    rw [goL_cons] at h
    split at h
    · exact absurd h (by decide)
    split at h
    · exact absurd h (by decide)
    split at h
    · exact absurd h (by decide)
    rename_i h3
    rcases List.mem_cons.1 hx with rfl | hx
    · omega
    · exact goL_val r _ h x hx
theorem valF_len {L : List Lb} (h : labelF L = 0) (n : By) : (valF L n).length ≤ 40 := by
  unfold labelF at h
  split at h
  · exact absurd h (by decide)
  · unfold valF
    cases hf : L.find? (fun x => decide (x.nm = n)) with
    | none => simp
    | some x => exact goL_val L none h x (List.mem_of_find?_eq_some hf)
/-- What Fits answers. -/
def fitsR (L : List Lb) (M : List Mt) : Bool × Int := if labelF L ≠ 0 then (false, labelF L) else if matchF M ≠ 0 then (false, matchF M) else (fitsB L M, 0)
end Go.Proofs.YtjmplhkdohlbcaaGreatDoor.Lab
/-
  Labels: the walk of Fits.
-/
namespace Go.Proofs.YtjmplhkdohlbcaaGreatDoor.Lab
open Go.RowKit Go.Gh
set_option linter.unusedVariables false
set_option linter.unusedSimpArgs false
set_option maxHeartbeats 8000000 in
set_option maxRecDepth 100000 in
theorem fits_any (v u : Value) (L : List Lb) (M : List Mt) (w : World) (hs : Sp LbR 2 w v L) (ht : Sp MtR 3 w u M) (hM : MTab w) : Calls Tryz.prog 19 #[v, u] w fun e w' => e = .returned (.tuple #[.bool (fitsR L M).1, .int .i64 (fitsR L M).2]) ∧ Below w.heap.size w w' := by
  obtain ⟨ao, c, rfl, -, -⟩ := hs.shape
  obtain ⟨p, hp⟩ : ∃ n, L.length = n := ⟨_, rfl⟩
  rw [hp] at hs ⊢
  obtain ⟨n, hn⟩ : ∃ n, M.length = n := ⟨_, rfl⟩
  obtain ⟨mo, mc, rfl, hnc, hmc⟩ := ht.shapeN hn
  have HS := Lib.hid hs
  have HT := Lib.hid ht
  have HN := Lib.hid hn
  have HMT := Lib.hid hM
  have HCL := Lib.hid (lbcheck_any _ L w hs)
  have HCM := Lib.hid (fun W (hb : Below w.heap.size w W) => mtcheck_any _ M W (ht.below mtR_mono hb))
  obtain ⟨R1, R2, hR⟩ : ∃ a b, fitsR L M = (a, b) := ⟨_, _, rfl⟩
  rw [hR]
  have hR2 := hR
  unfold fitsR at hR2
  have HR := Lib.hid hR2
  obtain ⟨E, hE⟩ : ∃ E, labelF L = E := ⟨_, rfl⟩
  obtain ⟨E2, hE2⟩ : ∃ E, matchF M = E := ⟨_, rfl⟩
  rw [hE] at HCL
  rw [hE2] at HCM
  have HE := Lib.hid hE
  have HE2 := Lib.hid hE2
  clear hp hs ht hn hM hR hR2 hE hE2
  by_cases hz : E = 0
  case neg =>
    have h := HR.out
    rw [HE.out, if_pos hz] at h
    injection h with h1 h2
    subst h1 h2
    have t1 : (E != 0) = true := by rw [bne_iff_ne]; exact hz
    clear hz
    go_enter Tryz.func19, Tryz.ntmps19
    go_wp2_with (go_at_call 11; refine HCL.out.mono ?_; rintro e w1 ⟨rfl, hb1⟩; have HB1 := Lib.hid hb1; clear hb1)
    go_ret2
    exact ⟨rfl, HB1.out⟩
  subst hz
  by_cases hz2 : E2 = 0
  case neg =>
    have h := HR.out
    rw [HE.out, if_neg (by simp), HE2.out, if_pos hz2] at h
    injection h with h1 h2
    subst h1 h2
    have t1 : (E2 != 0) = true := by rw [bne_iff_ne]; exact hz2
    clear hz2
    go_enter Tryz.func19, Tryz.ntmps19
    go_wp2_with (first
      | (go_at_call 11; refine HCL.out.mono ?_; rintro e w1 ⟨rfl, hb1⟩; have HB1 := Lib.hid hb1; clear hb1)
      | (go_at_call 47; refine (HCM.out w1 HB1.out).mono ?_; rintro e w2 ⟨rfl, hb2⟩; have HB2 := Lib.hid (HB1.out.trans (hb2.mono HB1.out.size)); clear hb2))
    go_ret2
    exact ⟨rfl, HB2.out⟩
  subst hz2
  have HRR : Hid (R1 = fitsB L M ∧ R2 = 0) := Lib.hid (by
    have h := HR.out
    rw [HE.out, if_neg (by simp), HE2.out, if_neg (by simp)] at h
    injection h with h1 h2
    exact ⟨h1.symm, h2.symm⟩)
  go_enter Tryz.func19, Tryz.ntmps19
  go_wp2_with (first
    | (go_at_call 11; refine HCL.out.mono ?_; rintro e w1 ⟨rfl, hb1⟩; have HB1 := Lib.hid hb1; clear hb1)
    | (go_at_call 47; refine (HCM.out w1 HB1.out).mono ?_; rintro e w2 ⟨rfl, hb2⟩; have HB2 := Lib.hid (HB1.out.trans (hb2.mono HB1.out.size)); clear hb2))
  go_loopw [22] (fun i wr => ∃ (k : Nat), k ≤ n ∧ i = .int .i64 k ∧ Hid ((M.take k).all (fitB L) = true) ∧ Below w.heap.size w wr) (fun i _ => n - (intOf i).toNat)
  case atStart => exact ⟨0, Nat.zero_le _, rfl, Lib.hid rfl, HB2.out⟩
  case round =>
    obtain ⟨k, hk, rfl, HA, hbel⟩ := hrel
    have hsz := hbel.size
    by_cases hlt : k < n
    case neg =>
      obtain rfl : k = n := by omega
      have HF : Hid (R1 = true ∧ R2 = 0) := Lib.hid ⟨by
        have h := HA.out
        rw [List.take_of_length_le (by rw [HN.out]; exact Nat.le_refl _)] at h
        rw [HRR.out.1]
        exact h, HRR.out.2⟩
      go_wp2_with fail
      go_ret2
      rw [HF.out.1, HF.out.2]
      exact ⟨rfl, hbel⟩
    obtain ⟨x, hx⟩ : ∃ x, M[k]? = some x := ⟨_, List.getElem?_eq_getElem (by rw [HN.out]; exact hlt)⟩
    obtain ⟨b, off, cs, rfl, ⟨rfl, hl1, hl2, hl3, hl4⟩, _, hck⟩ := (HT.out.below mtR_mono hbel).get hx
    have c0 := hck 0 _ rfl
    have c1 := hck 1 _ rfl
    have c2 := hck 2 _ rfl
    rw [Nat.add_zero] at c0
    obtain ⟨F, hF⟩ : ∃ F, fitB L x = F := ⟨_, rfl⟩
    have HFT := Lib.hid (fun W (hb : Below w.heap.size w W) => fit_any _ L x W (HS.out.below lbR_mono hb) (HMT.out.below hb) (by have := valF_len HE.out x.nm; omega))
    rw [hF] at HFT
    have HX := Lib.hid hx
    have HFF := Lib.hid hF
    obtain ⟨K, hK⟩ : ∃ z, x.kd = z := ⟨_, rfl⟩
    obtain ⟨Sn, hSn⟩ : ∃ z, mkS x.nm = z := ⟨_, rfl⟩
    obtain ⟨V, hV⟩ : ∃ z, mkS x.vl = z := ⟨_, rfl⟩
    rw [hK, hSn, hV] at HFT
    rw [hK] at c0
    rw [hSn] at c1
    rw [hV] at c2
    clear hck hx hF hl1 hl2 hl3 hl4 hK hSn hV
    go_upto_region 10 with (fail)
    obtain ⟨wA, hwA⟩ : ∃ wA, wA = wr.alloc (Obj.cells #[.int .i64 K, .string Sn, .string V] 73) := ⟨_, rfl⟩
    have hbox : wA.heap[wr.heap.size]? = some (.cells #[.int .i64 K, .string Sn, .string V] 73 (0, 0)) := by rw [hwA]; exact heap_alloc_new wr _
    have hbA : Below w.heap.size w wA := by rw [hwA]; exact hbel.alloc hsz _
    rw [← hwA]
    obtain ⟨⟨d0, d1, d2⟩, -⟩ := bx3 hbox
    have HC := Lib.hid (HFT.out wA hbA)
    have HBA := Lib.hid hbA
    generalize wr.heap.size = bx at *
    clear hwA hbox hbA c0 c1 c2
    cases F with
    | true =>
      have HA2 := Lib.hid (fits_yes HA.out HX.out HFF.out)
      go_wp2_with (go_at_call 48; refine HC.out.mono ?_; rintro e w3 ⟨rfl, hb3⟩; have HB3 := Lib.hid (HBA.out.trans (hb3.mono HBA.out.size)); clear hb3)
      go_roundw
      case rel => exact ⟨k + 1, by omega, by go_num, HA2, HB3.out⟩
      case measure => simp [intOf]; omega
    | false =>
      have HF : Hid (R1 = false ∧ R2 = 0) := Lib.hid ⟨by rw [HRR.out.1]; exact fits_no HX.out HFF.out, HRR.out.2⟩
      go_wp2_with (go_at_call 48; refine HC.out.mono ?_; rintro e w3 ⟨rfl, hb3⟩; have HB3 := Lib.hid (HBA.out.trans (hb3.mono HBA.out.size)); clear hb3)
      go_ret2
      rw [HF.out.1, HF.out.2]
      exact ⟨rfl, HB3.out⟩
end Go.Proofs.YtjmplhkdohlbcaaGreatDoor.Lab
/-
  The walks of SamplesFault and chunk.Check: are samples in the order of their times?
-/
namespace Go.Proofs.YtjmplhkdohlbcaaGreatDoor.Smp
open Go.RowKit Go.Gh
set_option linter.unusedVariables false

/-- Field j of row i. -/
def fld (l : List (List Int)) (i j : Nat) : Int := (l.getD i []).getD j 0
def Ordered (l : List (List Int)) : Prop := ∀ i, i + 1 < l.length → fld l i 0 < fld l (i + 1) 0
open Classical in
noncomputable def sampF (l : List (List Int)) : Int := if 1000 < l.length then 2 else if Ordered l then 0 else 5

theorem samplesfault_any (v : Value) (n : Nat) (l : List (List Int)) (w : World) (hs : Sl w 2 v n (rowCells l)) (hl : l.length = n) (hr : Rows64 2 l) (hn : n ≤ 140737488355328) :
    Calls Tryz.prog 58 #[v] w fun e w' => e = .returned (.int .i64 (sampF l)) ∧ Below w.heap.size w w' := by
  obtain ⟨ao, c, rfl, hnc, hc, _⟩ := hs.shape
  have HL := Lib.hid hl
  by_cases hbig : 1000 < n
  · have HF : Hid (sampF l = 2) := if_pos (by omega)
    clear hl
    go_enter Tryz.func58, Tryz.ntmps58
    go_wp2_with fail
    go_ret
    exact ⟨ret_int HF.out.symm, Below.refl _ _⟩
  · clear hl
    go_enter Tryz.func58, Tryz.ntmps58
    go_wp2_with fail
    go_loopw [2, 9] (fun r i wr => ∃ k : Nat, k ≤ n ∧ i = .int .i64 k ∧ r = .int .i64 0 ∧ Below w.heap.size w wr ∧ Hid (∀ i, i + 1 < k → fld l i 0 < fld l (i + 1) 0)) (fun _ i _ => n - (intOf i).toNat)
    case atStart => exact ⟨0, by omega, rfl, rfl, Below.refl _ _, fun i hi => by omega⟩
    case round =>
      obtain ⟨k, hk, rfl, rfl, hbr, hord⟩ := hrel
      by_cases hlt : k < n
      · obtain ⟨b, off, rfl, hk1, hk2, hck⟩ := (hs.below hbr).row HL.out hr hlt
        have c1 := hck 0 (by decide)
        rw [Nat.add_zero] at c1
        clear hck
        by_cases h0 : k = 0
        · subst h0
          go_wp2_with fail
          go_quiet (fail)
          go_wp2
          go_roundw
          case rel => exact ⟨1, by omega, rfl, rfl, below_drewN hbr _, fun i hi => by omega⟩
          case measure => simp [intOf]; omega
        · obtain ⟨j, rfl⟩ : ∃ j, k = j + 1 := ⟨k - 1, by omega⟩
          obtain ⟨b', off', hbo, hj1, hj2, hcj⟩ := (hs.below hbr).row HL.out hr (show j < n by omega)
          simp only [Option.some.injEq, Addr.mk.injEq, and_true] at hbo
          obtain ⟨rfl, rfl⟩ := hbo
          have c0 := hcj 0 (by decide)
          rw [Nat.add_zero] at c0
          clear hcj
          have hA : fld l j 0 = (l.getD j []).getD 0 0 := rfl
          have hB : fld l (j + 1) 0 = (l.getD (j + 1) []).getD 0 0 := rfl
          rw [← hA] at c0
          rw [← hB] at c1
          clear hA hB
          have d0 : decide ((0 : Int) < (j + 1 : Nat)) = true := by simp
          have i1 : ((j + 1 : Nat) : Int) - 1 = (j : Int) := by omega
          generalize hx : fld l j 0 = x at *
          generalize hy : fld l (j + 1) 0 = y at *
          have HX := Lib.hid hx
          have HY := Lib.hid hy
          clear hx hy h0
          by_cases hle : y ≤ x
          · go_wp2_with fail
            go_quiet (fail)
            have HF : Hid (sampF l = 5) := by
              show _ = _
              unfold sampF
              rw [if_neg (by rw [HL.out]; omega), if_neg]
              intro ho
              have := ho j (by rw [HL.out]; omega)
              rw [HX.out, HY.out] at this
              omega
            go_wp2_with fail
            go_ret
            exact ⟨ret_int HF.out.symm, below_drewN hbr _⟩
          · have hlt' : x < y := by omega
            have HN : Hid (∀ i, i + 1 < j + 1 + 1 → fld l i 0 < fld l (i + 1) 0) := by
              intro i hi
              rcases Nat.lt_or_eq_of_le (Nat.le_of_lt_succ hi) with h | h
              · exact hord.out i h
              · obtain rfl : i = j := by omega
                rw [HX.out, HY.out]; exact hlt'
            go_wp2_with fail
            go_quiet (fail)
            go_wp2
            go_roundw
            case rel => exact ⟨j + 1 + 1, by omega, by go_num, rfl, below_drewN hbr _, HN⟩
            case measure => simp [intOf]; omega
      · obtain rfl : k = n := by omega
        have HF : Hid (sampF l = 0) := by
          show _ = _
          unfold sampF
          rw [if_neg (by rw [HL.out]; omega), if_pos]
          intro i hi
          exact hord.out i (by rw [HL.out] at hi; exact hi)
        go_wp2_with fail
        go_ret
        exact ⟨ret_int HF.out.symm, hbr⟩

theorem check_any (v : Value) (n : Nat) (l : List (List Int)) (w : World) (hs : Sl w 2 v n (rowCells l)) (hl : l.length = n) (hr : Rows64 2 l) (hn : n ≤ 140737488355328) :
    Calls Tryz.prog 55 #[v] w fun e w' => e = .returned (.int .i64 (sampF l)) ∧ Below w.heap.size w w' := by
  obtain ⟨ao, c, rfl, hnc, hc, _⟩ := hs.shape
  have HL := Lib.hid hl
  by_cases hbig : 1000 < n
  · have HF : Hid (sampF l = 2) := if_pos (by omega)
    clear hl
    go_enter Tryz.func55, Tryz.ntmps55
    go_wp2_with fail
    go_ret
    exact ⟨ret_int HF.out.symm, Below.refl _ _⟩
  · clear hl
    go_enter Tryz.func55, Tryz.ntmps55
    go_wp2_with fail
    go_loopw [2, 3] (fun r i wr => ∃ k : Nat, k ≤ n ∧ i = .int .i64 (k + 1) ∧ r = .int .i64 0 ∧ Below w.heap.size w wr ∧ Hid (∀ i, i < k → i + 1 < n → fld l i 0 < fld l (i + 1) 0)) (fun _ i _ => n + 1 - (intOf i).toNat)
    case atStart => exact ⟨0, by omega, rfl, rfl, Below.refl _ _, fun i hi => by omega⟩
    case round =>
      obtain ⟨j, hk, rfl, rfl, hbr, hord⟩ := hrel
      by_cases hlt : j + 1 < n
      · obtain ⟨b, off, rfl, hk1, hk2, hck⟩ := (hs.below hbr).row HL.out hr hlt
        have c1 := hck 0 (by decide)
        rw [Nat.add_zero] at c1
        clear hck
        obtain ⟨b', off', hbo, hj1, hj2, hcj⟩ := (hs.below hbr).row HL.out hr (show j < n by omega)
        simp only [Option.some.injEq, Addr.mk.injEq, and_true] at hbo
        obtain ⟨rfl, rfl⟩ := hbo
        have c0 := hcj 0 (by decide)
        rw [Nat.add_zero] at c0
        clear hcj
        have hA : fld l j 0 = (l.getD j []).getD 0 0 := rfl
        have hB : fld l (j + 1) 0 = (l.getD (j + 1) []).getD 0 0 := rfl
        rw [← hA] at c0
        rw [← hB] at c1
        clear hA hB
        generalize hx : fld l j 0 = x at *
        generalize hy : fld l (j + 1) 0 = y at *
        have HX := Lib.hid hx
        have HY := Lib.hid hy
        clear hx hy
        have i1 : IntKind.i64.wrap ((j : Int) + 1 - 1) = (j : Int) := by rw [IntWalk.i64_in _ (by omega)]; omega
        have i2 : ((j : Int) + 1).toNat = j + 1 := by omega
        have i3 : (j : Int) + 1 < n := by omega
        have i4 : 0 ≤ (j : Int) + 1 := by omega
        have i5 : (j : Int) < n := by omega
        by_cases hle : y ≤ x
        · go_wp2_with fail
          go_quiet (fail)
          have HF : Hid (sampF l = 5) := by
            show _ = _
            unfold sampF
            rw [if_neg (by rw [HL.out]; omega), if_neg]
            intro ho
            have := ho j (by rw [HL.out]; omega)
            rw [HX.out, HY.out] at this
            omega
          go_wp2_with fail
          go_ret
          exact ⟨ret_int HF.out.symm, below_drewN hbr _⟩
        · have hlt' : x < y := by omega
          have HN : Hid (∀ i, i < j + 1 → i + 1 < n → fld l i 0 < fld l (i + 1) 0) := by
            intro i hi hi2
            rcases Nat.lt_or_eq_of_le (Nat.le_of_lt_succ hi) with h | h
            · exact hord.out i h hi2
            · obtain rfl : i = j := h
              rw [HX.out, HY.out]; exact hlt'
          go_wp2_with fail
          go_quiet (fail)
          go_wp2
          go_roundw
          case rel => exact ⟨j + 1, by omega, by go_num, rfl, below_drewN hbr _, HN⟩
          case measure => simp [intOf]; omega
      · have HF : Hid (sampF l = 0) := by
          show _ = _
          unfold sampF
          rw [if_neg (by rw [HL.out]; omega), if_pos]
          intro i hi
          rw [HL.out] at hi
          exact hord.out i (by omega) hi
        go_wp2_with fail
        go_ret
        exact ⟨ret_int HF.out.symm, hbr⟩
end Go.Proofs.YtjmplhkdohlbcaaGreatDoor.Smp
/-
  Slices of samples: their elements; how samples that are right read.
-/
namespace Go.Proofs.YtjmplhkdohlbcaaGreatDoor.Sam
open Go.RowKit Go.Gh
set_option linter.unusedVariables false
theorem infoSmp : (Tryz.prog.info? 101).map (fun i => (i.zero, i.size, i.bytes)) = some (some (.agg #[.int .i64 0, .int .i64 0]), 2, 16) := by kernel_rfl
theorem elSmp : Elem Tryz.prog 86 101 2 16 := elem_of Tryz.underlying86 infoSmp rfl (by decide)
theorem ints_one (l : List Int) : ∀ u ∈ l.map (Value.int .i64), u.oneCell' = true := by
  intro u hu; simp at hu; obtain ⟨z, _, rfl⟩ := hu; rfl
theorem rows_one (l : List (List Int)) : ∀ u ∈ rowCells l, u.oneCell' = true := by
  intro u hu
  unfold rowCells at hu
  obtain ⟨r, _, hr⟩ := List.mem_flatMap.1 hu
  exact ints_one r u hr
theorem row2 (r : List Int) (h : r.length = 2) : ∃ x0 x1 : Int, r = [x0, x1] := by
  match r, h with
  | [x0, x1], _ => exact ⟨x0, x1, rfl⟩
theorem fault_small {l : List (List Int)} (h : Smp.sampF l = 0) : l.length ≤ 1000 := by
  unfold Smp.sampF at h
  split at h
  · simp at h
  · omega
theorem fault_asc {l : List (List Int)} (h : Smp.sampF l = 0) : Asc l := by
  unfold Smp.sampF at h
  split at h
  · simp at h
  · split at h
    · rename_i ho; exact asc_of fun i hi => ho i hi
    · simp at h
theorem betF_rows {k : Nat} {l : List (List Int)} (h : RowsK k l) (fr till : Int) : RowsK k (betF fr till l) := fun r hr => h r (List.mem_filter.1 hr).1
end Go.Proofs.YtjmplhkdohlbcaaGreatDoor.Sam
/-
  The walks of sort.Search and of the two conditions that Range hands it.
-/
namespace Go.Proofs.YtjmplhkdohlbcaaGreatDoor.Sam
open Go.RowKit Go.Gh
set_option linter.unusedVariables false

set_option maxHeartbeats 4000000 in
set_option maxRecDepth 1000000 in
theorem search_any (g : Nat) (cb : Array Value) (n : Nat) (p : Nat → Bool) (w : World) (eg : ∀ args w, (callFunc g args).run Tryz.prog w = .ok (.enter g args) w) (hsz : n < 4611686018427387904)
    (hf : ∀ (i : Nat) (w' : World), i < n → Below w.heap.size w w' → Calls Tryz.prog g (#[.int .i64 i] ++ cb) w' fun e w'' => e = .returned (.bool (p i)) ∧ Below w'.heap.size w' w'')
    (hmono : ∀ a b, a ≤ b → b < n → p a = true → p b = true) :
    Calls Tryz.prog 136 #[.int .i64 n, .func (.func g) #[] cb] w fun e w' => (∃ k : Nat, k ≤ n ∧ e = .returned (.int .i64 k) ∧ (∀ t, t < k → p t = false) ∧ (∀ t, k ≤ t → t < n → p t = true)) ∧ Below w.heap.size w w' := by
  have HF := Lib.hid hf
  have M := Lib.hid hmono
  clear hf hmono
  go_enter Tryz.func136, Tryz.ntmps136
  go_wp2_with fail
  go_loopg [5, 6] n (fun kx s5 s6 wr => ∃ (lo hi : Nat), s5 = .int .i64 lo ∧ s6 = .int .i64 hi ∧ lo ≤ hi ∧ hi ≤ n ∧ hi - lo ≤ kx ∧ Below w.heap.size w wr ∧
    Hid ((∀ t, t < lo → p t = false) ∧ (∀ t, hi ≤ t → t < n → p t = true)))
  case atStart => exact ⟨0, n, rfl, rfl, Nat.zero_le _, Nat.le_refl _, by omega, Below.refl _ _, Lib.hid ⟨fun t ht => absurd ht (Nat.not_lt_zero _), fun t h1 h2 => by omega⟩⟩
  case round =>
    obtain ⟨lo, hi, rfl, rfl, hlh, hin, hg, hbr, I⟩ := hrel
    by_cases hlt : lo < hi
    · have hc := HF.out ((lo + hi) / 2) wr (by omega) hbr
      rw [show (((lo + hi) / 2 : Nat) : Int) = ((lo : Int) + (hi : Int)) / 2 by omega] at hc
      cases hp : p ((lo + hi) / 2) <;> rw [hp] at hc
      · have HP := Lib.hid hp
        clear hp
        go_wp2_with (go_at_fn g; refine hc.mono ?_; rintro e w' ⟨rfl, hb'⟩)
        go_roundg (hi - ((lo + hi) / 2 + 1))
        case measure => omega
        case rel =>
          have I2 : Hid ((∀ t, t < (lo + hi) / 2 + 1 → p t = false) ∧ (∀ t, hi ≤ t → t < n → p t = true)) := Lib.hid ⟨fun t ht => (by
            cases h : p t with
            | false => rfl
            | true => have := M.out t ((lo + hi) / 2) (by omega) (by omega) h; rw [HP.out] at this; cases this), I.out.2⟩
          exact ⟨(lo + hi) / 2 + 1, hi, by rw [show ((lo : Int) + (hi : Int)) / 2 + 1 = (((lo + hi) / 2 + 1 : Nat) : Int) by omega], rfl, by omega, hin, Nat.le_refl _, hbr.trans (hb'.mono hbr.size), I2⟩
      · have HP := Lib.hid hp
        clear hp
        go_wp2_with (go_at_fn g; refine hc.mono ?_; rintro e w' ⟨rfl, hb'⟩)
        go_roundg ((lo + hi) / 2 - lo)
        case measure => omega
        case rel =>
          have I2 : Hid ((∀ t, t < lo → p t = false) ∧ (∀ t, (lo + hi) / 2 ≤ t → t < n → p t = true)) := Lib.hid ⟨I.out.1, fun t ht htn => M.out ((lo + hi) / 2) t ht htn HP.out⟩
          exact ⟨lo, (lo + hi) / 2, rfl, by rw [show ((lo : Int) + (hi : Int)) / 2 = (((lo + hi) / 2 : Nat) : Int) by omega], by omega, by omega, Nat.le_refl _, hbr.trans (hb'.mono hbr.size), I2⟩
    · obtain rfl : hi = lo := by omega
      go_wp2_with fail
      go_ret
      exact ⟨⟨hi, hin, rfl, I.out.1, I.out.2⟩, hbr⟩
set_option maxRecDepth 100000 in
theorem closure1 (ba bx n c : Nat) (ao : Option Addr) (l : List (List Int)) (x : Int) (i : Nat) (W : World) (hi : i < n) (ha : W.cell? ⟨ba, 0, none⟩ = some (.slice ao n c)) (hx : W.cell? ⟨bx, 0, none⟩ = some (.int .i64 x)) (hs : Sl W 2 (.slice ao n c) n (rowCells l)) (hl : l.length = n) (hr : RowsK 2 l) :
    Calls Tryz.prog 137 (#[.int .i64 i] ++ #[.pointer (some ⟨ba, 0, none⟩), .pointer (some ⟨bx, 0, none⟩)]) W fun e w' => e = .returned (.bool (decide (x ≤ rg (l.getD i []) 0))) ∧ Below W.heap.size W w' := by
  obtain ⟨b, off, rfl, hk1, hck⟩ := hs.rowk hl hr hi
  obtain ⟨T, V, hv⟩ := row2 _ hk1
  rw [hv] at hck
  rw [hv]
  have c0 : _ = some (Value.int .i64 T) := hck 0 (by decide)
  rw [Nat.add_zero] at c0
  have hiz : (i : Int) < (n : Int) := by omega
  clear hck hk1 hv hl hr hs
  go_enter Tryz.func137, Tryz.ntmps137
  go_wp2_with fail
  go_quiet (fail)
  go_wp2_with fail
  go_ret
  exact ⟨by first | rfl | simp [rg], below_drewN (Below.refl _ _) _⟩
set_option maxRecDepth 100000 in
theorem closure2 (ba bx n c : Nat) (ao : Option Addr) (l : List (List Int)) (x : Int) (i : Nat) (W : World) (hi : i < n) (ha : W.cell? ⟨ba, 0, none⟩ = some (.slice ao n c)) (hx : W.cell? ⟨bx, 0, none⟩ = some (.int .i64 x)) (hs : Sl W 2 (.slice ao n c) n (rowCells l)) (hl : l.length = n) (hr : RowsK 2 l) :
    Calls Tryz.prog 138 (#[.int .i64 i] ++ #[.pointer (some ⟨ba, 0, none⟩), .pointer (some ⟨bx, 0, none⟩)]) W fun e w' => e = .returned (.bool (decide (x ≤ rg (l.getD i []) 0))) ∧ Below W.heap.size W w' := by
  obtain ⟨b, off, rfl, hk1, hck⟩ := hs.rowk hl hr hi
  obtain ⟨T, V, hv⟩ := row2 _ hk1
  rw [hv] at hck
  rw [hv]
  have c0 : _ = some (Value.int .i64 T) := hck 0 (by decide)
  rw [Nat.add_zero] at c0
  have hiz : (i : Int) < (n : Int) := by omega
  clear hck hk1 hv hl hr hs
  go_enter Tryz.func138, Tryz.ntmps138
  go_wp2_with fail
  go_quiet (fail)
  go_wp2_with fail
  go_ret
  exact ⟨by first | rfl | simp [rg], below_drewN (Below.refl _ _) _⟩
end Go.Proofs.YtjmplhkdohlbcaaGreatDoor.Sam
/-
  The walk of Range.
-/
namespace Go.Proofs.YtjmplhkdohlbcaaGreatDoor.Sam
open Go.RowKit Go.Gh
set_option linter.unusedVariables false
noncomputable def rangeR (l : List (List Int)) (fr till : Int) : List (List Int) × Int := if Smp.sampF l = 0 then (betF fr till l, 0) else ([], Smp.sampF l)
/-- What Search says of a list in order. -/
theorem place_of {l : List (List Int)} {n k : Nat} {x : Int} (hl : l.length = n) (hk : k ≤ n) (h1 : ∀ t, t < k → decide (x ≤ rg (l.getD t []) 0) = false) (h2 : ∀ t, k ≤ t → t < n → decide (x ≤ rg (l.getD t []) 0) = true) : PlaceOf x l k :=
  ⟨by omega, fun t ht => by have := of_decide_eq_false (h1 t ht); omega, fun t ht h => of_decide_eq_true (h2 t ht (by omega))⟩
theorem mono_of {l : List (List Int)} {n : Nat} {x : Int} (hl : l.length = n) (ha : Asc l) : ∀ a b, a ≤ b → b < n → decide (x ≤ rg (l.getD a []) 0) = true → decide (x ≤ rg (l.getD b []) 0) = true := by
  intro a b hab hb h
  have := ha.le hab (by omega)
  have := of_decide_eq_true h
  exact decide_eq_true (by omega)
set_option maxHeartbeats 2000000 in
set_option maxRecDepth 100000 in
theorem range_any (v : Value) (n : Nat) (l : List (List Int)) (fr till : Int) (w : World) (hs : Sl w 2 v n (rowCells l)) (hl : l.length = n) (hr : Rows64 2 l) (hn : n ≤ 140737488355328) :
    Calls Tryz.prog 114 #[v, .int .i64 fr, .int .i64 till] w (RowPost 101 2 w (rangeR l fr till)) := by
  obtain ⟨ao, c, rfl, hnc, hc, _⟩ := hs.shape
  have HL := Lib.hid hl
  obtain ⟨W0, hW0⟩ : ∃ W0, W0 = ((w.alloc (.cells #[.slice ao n c] 86)).alloc (.cells #[.int .i64 fr] 2)).alloc (.cells #[.int .i64 till] 2) := ⟨_, rfl⟩
  have hsize : W0.heap.size = w.heap.size + 1 + 1 + 1 := by rw [hW0]; simp
  have hB0 : Below w.heap.size w W0 := by rw [hW0]; exact (((Below.refl _ w).alloc (Nat.le_refl _) _).alloc (by simp) _).alloc (by simp; omega) _
  have ca : W0.cell? ⟨w.heap.size, 0, none⟩ = some (.slice ao n c) := by
    rw [hW0]
    exact (row_cell 0 _ (by rw [Below.heap_alloc _ _ _ (by simp; omega)]; exact two_first w _ _) rfl).1
  have cx : W0.cell? ⟨w.heap.size + 1, 0, none⟩ = some (.int .i64 fr) := by
    rw [hW0]
    exact (row_cell 0 _ (by rw [Below.heap_alloc _ _ _ (by simp)]; exact two_second w _ _) rfl).1
  have cy : W0.cell? ⟨w.heap.size + 1 + 1, 0, none⟩ = some (.int .i64 till) := by
    rw [hW0]
    have := two_second (w.alloc (.cells #[.slice ao n c] 86)) (.cells #[.int .i64 fr] 2) (.cells #[.int .i64 till] 2)
    rw [World.size_alloc] at this
    exact (row_cell 0 _ this rfl).1
  have hS0 := hs.below hB0
  obtain ⟨e0, he0⟩ : ∃ e, Smp.sampF l = e := ⟨_, rfl⟩
  have HE := Lib.hid he0
  have HS := Lib.hid hsize
  by_cases hbad : e0 = 0
  · subst hbad
    have hn2 : n ≤ 1000 := by have := fault_small he0; omega
    have hasc := fault_asc he0
    have HA := Lib.hid hasc
    have HF : Hid (rangeR l fr till = (betF fr till l, 0)) := if_pos he0
    have eg1 : ∀ args w, (callFunc 137 args).run Tryz.prog w = .ok (.enter 137 args) w := enters_of Tryz.func137 (by kernel_rfl) rfl
    have eg2 : ∀ args w, (callFunc 138 args).run Tryz.prog w = .ok (.enter 138 args) w := enters_of Tryz.func138 (by kernel_rfl) rfl
    have S1 : ∀ w1, Below W0.heap.size W0 w1 → Calls Tryz.prog 136 #[.int .i64 n, .func (.func 137) #[] #[.pointer (some ⟨w.heap.size, 0, none⟩), .pointer (some ⟨w.heap.size + 1, 0, none⟩)]] w1 fun e w' => (∃ k : Nat, k ≤ n ∧ e = .returned (.int .i64 k) ∧ Hid (PlaceOf fr l k)) ∧ Below w1.heap.size w1 w' := by
      intro w1 hb1
      refine (search_any 137 _ n (fun i => decide (fr ≤ rg (l.getD i []) 0)) w1 eg1 (by omega) ?_ (mono_of hl hasc)).mono ?_
      · intro i w' hi hb
        have hbb := hb1.trans (hb.mono hb1.size)
        exact closure1 w.heap.size (w.heap.size + 1) n c ao l fr i w' hi ((hbb.cell (p := ⟨w.heap.size, 0, none⟩) (by show w.heap.size < _; omega)).trans ca) ((hbb.cell (p := ⟨w.heap.size + 1, 0, none⟩) (by show w.heap.size + 1 < _; omega)).trans cx) (hS0.below hbb) hl hr.k
      · rintro e w' ⟨⟨k, h1, h2, h3, h4⟩, h5⟩
        exact ⟨⟨k, h1, h2, Lib.hid (place_of hl h1 h3 h4)⟩, h5⟩
    have S2 : ∀ w1, Below W0.heap.size W0 w1 → Calls Tryz.prog 136 #[.int .i64 n, .func (.func 138) #[] #[.pointer (some ⟨w.heap.size, 0, none⟩), .pointer (some ⟨w.heap.size + 1 + 1, 0, none⟩)]] w1 fun e w' => (∃ k : Nat, k ≤ n ∧ e = .returned (.int .i64 k) ∧ Hid (PlaceOf till l k)) ∧ Below w1.heap.size w1 w' := by
      intro w1 hb1
      refine (search_any 138 _ n (fun i => decide (till ≤ rg (l.getD i []) 0)) w1 eg2 (by omega) ?_ (mono_of hl hasc)).mono ?_
      · intro i w' hi hb
        have hbb := hb1.trans (hb.mono hb1.size)
        exact closure2 w.heap.size (w.heap.size + 1 + 1) n c ao l till i w' hi ((hbb.cell (p := ⟨w.heap.size, 0, none⟩) (by show w.heap.size < _; omega)).trans ca) ((hbb.cell (p := ⟨w.heap.size + 1 + 1, 0, none⟩) (by show w.heap.size + 1 + 1 < _; omega)).trans cy) (hS0.below hbb) hl hr.k
      · rintro e w' ⟨⟨k, h1, h2, h3, h4⟩, h5⟩
        exact ⟨⟨k, h1, h2, Lib.hid (place_of hl h1 h3 h4)⟩, h5⟩
    have HS1 := Lib.hid S1
    have HS2 := Lib.hid S2
    clear S1 S2 hasc hl he0 eg1 eg2 hsize cx cy
    go_enter Tryz.func114, Tryz.ntmps114
    go_wp2_with fail
    rw [← hW0]
    refine (Smp.check_any _ n l _ hS0 HL.out hr hn).mono ?_
    rw [HE.out]
    rintro e w1 ⟨rfl, hb1⟩
    have d1 : w1.cell? ⟨w.heap.size, 0, none⟩ = some (.slice ao n c) := (hb1.cell (p := ⟨w.heap.size, 0, none⟩) (by show w.heap.size < _; rw [HS.out]; omega)).trans ca
    go_wp2_with fail
    refine (HS1.out _ hb1).mono ?_
    rintro e w2 ⟨⟨i, hi, rfl, hp1⟩, hb2⟩
    have hb12 := hb1.trans (hb2.mono hb1.size)
    have d2 : w2.cell? ⟨w.heap.size, 0, none⟩ = some (.slice ao n c) := (hb12.cell (p := ⟨w.heap.size, 0, none⟩) (by show w.heap.size < _; rw [HS.out]; omega)).trans ca
    clear d1
    go_wp2_with fail
    refine (HS2.out _ hb12).mono ?_
    rintro e w3 ⟨⟨k, hk, rfl, hp2⟩, hb3⟩
    have hb13 := hb12.trans (hb3.mono hb12.size)
    have d3 : w3.cell? ⟨w.heap.size, 0, none⟩ = some (.slice ao n c) := (hb13.cell (p := ⟨w.heap.size, 0, none⟩) (by show w.heap.size < _; rw [HS.out]; omega)).trans ca
    have hb03 : Below w.heap.size w w3 := hB0.trans (hb13.mono hB0.size)
    clear d2
    by_cases hik : k ≤ i
    · have HG : Hid (rangeR l fr till = ([], 0)) := by
        show _ = _
        rw [HF.out, bet_none hp1.out hp2.out hik]
      go_wp2_with fail
      go_ret2
      exact rowPost_nil HG.out hb03
    · have hik2 : i < k := by omega
      have hlen : (betF fr till l).length = k - i := by
        rw [bet_some hp1.out hp2.out (by omega), List.length_take, List.length_drop, HL.out]; omega
      have hsl : Sl w3 2 (sliced ao i k c 2) (k - i) (rowCells (betF fr till l)) := by
        have := sl_sliced (hS0.below hb13) (L := i) (H := k) (by omega) (by omega)
        rw [bet_some hp1.out hp2.out (by omega)]
        rw [rowCells_drop hr.k i (by rw [HL.out]; omega), rowCells_take (hr.k.drop i) (k - i)] at this
        exact this
      obtain ⟨b, off, rfl, hk1, hck⟩ := hs.rowk HL.out hr.k (i := i) (by omega)
      have hsl2 : Sl w3 2 (.slice (some ⟨b, off + i * 2, none⟩) (k - i) (c - i)) (k - i) (rowCells (betF fr till l)) := by
        have := hsl
        unfold sliced at this
        rw [if_neg (by omega), Option.map_some, addr_add] at this
        exact this
      have HSL := Lib.hid hsl2
      have HLE := Lib.hid hlen
      have hge : ¬ (k : Int) ≤ (i : Int) := by omega
      have hci : ¬ c = i := by omega
      clear hsl hlen hk1 hck hsl2
      go_wp2_with (at_builtin; refine appendS elSmp rfl _ _ rfl (World.ownsRow_nil _ _ _ _) hb03 hb03.size rfl rfl HSL.out (rows_one _) ?c1 ?c2 ?_)
      case c1 => omega
      case c2 => omega
      intro v' w4 hown4 hb4 _
      obtain ⟨g, cap, rfl, _⟩ := own_some hown4 (by omega)
      have HFIN : Hid (RowPost 101 2 w (rangeR l fr till) (.returned (.tuple #[.slice (some ⟨g, 0, none⟩) (k - i) cap, .int .i64 0])) w4) := by
        show RowPost _ _ _ _ _ _
        rw [HF.out]
        exact ⟨_, rfl, by rw [HLE.out]; exact hown4, hb4, betF_rows hr.k _ _, by rw [HLE.out]; omega⟩
      clear hown4
      go_wp2_with fail
      go_ret2
      exact HFIN.out
  · have HF : Hid (rangeR l fr till = ([], e0)) := by
      show _ = _
      unfold rangeR
      rw [he0, if_neg hbad]
    have t1 : (e0 != 0) = true := by rw [bne_iff_ne]; exact hbad
    clear hl he0 hsize cx cy
    go_enter Tryz.func114, Tryz.ntmps114
    go_wp2_with (go_at_call 55; rw [← hW0]; refine (Smp.check_any _ n l _ hS0 HL.out hr hn).mono ?_; rw [HE.out]; rintro e w1 ⟨rfl, hb1⟩)
    go_ret2
    exact rowPost_nil HF.out (hB0.trans (hb1.mono hB0.size))
end Go.Proofs.YtjmplhkdohlbcaaGreatDoor.Sam
