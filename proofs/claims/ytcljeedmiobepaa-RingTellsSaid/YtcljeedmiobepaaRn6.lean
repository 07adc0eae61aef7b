/-
  Tallies of what is heavy: how they read; lists that are taken less.
-/
import Derived.Test.YtcljeedmiobepaaRn5
import Derived.Deep.RegionLaw
import Derived.Laws.Cover1
namespace Go.Proofs.Ytcljeedmiobepaa.Hv
open Go.RowKit Go.Gh Go.WideShapes Go.ChangeShapes Go.ChangeAt Go.Deep
set_option linter.unusedVariables false
def CtR (w : World) (x : Ct) (c : List Value) : Prop := c = [.string x.ky, .int .i64 x.n]
theorem ctR_mono : Mono CtR := fun w w' a c h hb => h
theorem ctR_grow {T : TypeId} {k B : Nat} : Grow CtR T k B := fun w w' a c u m us h ho hg => h
def HvV (w : World) (v : Value) (s : Hv) : Prop := ∃ t, v = .agg #[.int .i64 s.k, t, .int .i64 s.n, .int .i64 s.off] ∧ Sp CtR 2 w t s.l
theorem HvV.below {w w' : World} {v : Value} {s : Hv} (h : HvV w v s) (hb : Below w.heap.size w w') : HvV w' v s := by
  obtain ⟨t, h1, h2⟩ := h
  exact ⟨t, h1, h2.below ctR_mono hb⟩
/-- Counts of no great size. -/
def Mild (L : List Ct) : Prop := ∀ x ∈ L, 0 ≤ x.n ∧ x.n ≤ 4000000000
set_option maxHeartbeats 4000000 in
set_option maxRecDepth 100000 in
theorem less_any (v : Value) (n : Int) (L : List Ct) (w : World) (hs : Sp CtR 2 w v L) (hl : L.length ≤ 1000000) (hn0 : 0 ≤ n) (hn1 : n ≤ 4000000000) (hm : Mild L) :
    Calls Try.prog 119 #[v, .int .i64 n] w fun e w' => ∃ v', e = .returned v' ∧ Ow CtR 2 175 w.heap.size w' v' (lessF n L) ∧ Below w.heap.size w w' := by
  obtain ⟨ao, c, rfl, hnc, hc⟩ := hs.shape
  obtain ⟨m, hm'⟩ : ∃ m, L.length = m := ⟨_, rfl⟩
  rw [hm'] at hs hl hnc ⊢
  have HM := Lib.hid hm'
  have HS := Lib.hid hs
  have HB := Lib.hid hm
  clear hm' hs hm
  go_enter Try.func119, Try.ntmps119
  go_wp2_with fail
  go_loopw [5, 10] (fun r i wr => ∃ k p : Nat, k ≤ m ∧ p ≤ k ∧ i = .int .i64 k ∧ Hid ((lessF n (L.take k)).length = p) ∧ Hid (Ow CtR 2 175 w.heap.size wr r (lessF n (L.take k))) ∧ Below w.heap.size w wr) (fun _ i _ => m - (intOf i).toNat)
  case atStart => exact ⟨0, 0, by omega, by omega, rfl, Lib.hid rfl, Lib.hid Ow.nil, Below.refl _ _⟩
  case round =>
    obtain ⟨k, p, hk, hp, rfl, HP, HO, hbel⟩ := hrel
    have hsz := hbel.size
    by_cases hlt : k < m
    · obtain ⟨x, hx⟩ : ∃ x, L[k]? = some x := ⟨_, List.getElem?_eq_getElem (by rw [HM.out]; exact hlt)⟩
      obtain ⟨b, off, cs, rfl, rfl, _, hck⟩ := (HS.out.below ctR_mono hbel).get hx
      have c0 := hck 0 _ rfl
      have c1 := hck 1 _ rfl
      rw [Nat.add_zero] at c0
      have HX := Lib.hid hx
      have hxb := HB.out x (List.mem_of_getElem? hx)
      obtain ⟨uo, uc, rfl, hu1, hu2⟩ := Sp.shapeN HO.out.sp HP.out
      obtain ⟨P, hP1, hP2, hP3, hP4⟩ := HO.out
      rw [HP.out] at hP4
      clear hck hx
      go_upto_region 5 with (fail)
      obtain ⟨wA, hwA⟩ : ∃ wA, wA = wr.alloc (Obj.cells #[.string x.ky, .int .i64 x.n] 175) := ⟨_, rfl⟩
      have hbox : wA.heap[wr.heap.size]? = some (.cells #[.string x.ky, .int .i64 x.n] 175 (0, 0)) := by rw [hwA]; exact heap_alloc_new wr _
      have hbA : Below wr.heap.size wr wA := by rw [hwA]; exact (Below.refl _ _).alloc (Nat.le_refl _) _
      rw [← hwA]
      have HBA := Lib.hid (hbel.trans (hbA.mono hsz))
      have hQ := own_below hP4 hbA
      obtain ⟨⟨d0, d1⟩, -⟩ := bx2 hbox
      generalize wr.heap.size = bx at *
      clear hwA hbox hbA c0 c1 hP4
      by_cases hlt2 : n < x.n
      · have hw1 : IntKind.i64.wrap (x.n - n) = x.n - n := IntWalk.i64_in _ (by omega)
        have hrs : lessF n (L.take (k + 1)) = lessF n (L.take k) ++ [⟨x.ky, x.n - n⟩] := by rw [lessF_take HX.out, if_pos hlt2]
        have HRS := Lib.hid hrs
        have HLN : Hid ((lessF n (L.take (k + 1))).length = p + 1) := Lib.hid (by rw [hrs, List.length_append, HP.out]; rfl)
        have HPP := Lib.hid (And.intro hP1 (And.intro hP2 hP3))
        clear hrs hP1 hP2 hP3
        go_wp2_with (at_builtin; refine append1 [.string x.ky, .int .i64 (x.n - n)] elCt rfl _ _ rfl hQ HBA.out HBA.out.size rfl rfl rfl (by intro u hu; simp at hu; rcases hu with rfl | rfl <;> rfl) ?c4 ?c5 ?_)
        case c4 => omega
        case c5 => omega
        intro v7 w7 hown7 hbel7 hgr7
        have HON : Hid (Ow CtR 2 175 w.heap.size w7 v7 (lessF n (L.take (k + 1)))) := Lib.hid (by
          rw [HRS.out]
          exact Ow.snoc ctR_grow HPP.out.1 HPP.out.2.1 (show ∀ q ∈ P, CtR wA q.1 q.2 from HPP.out.2.2) hQ HP.out.symm hgr7 hown7 rfl rfl)
        clear hown7 hgr7
        go_wp2_with fail
        go_roundw
        case rel => exact ⟨k + 1, p + 1, by omega, by omega, by go_num, HLN, HON, hbel7⟩
        case measure => simp [intOf]; omega
      · have hrs : lessF n (L.take (k + 1)) = lessF n (L.take k) := by rw [lessF_take HX.out, if_neg hlt2, List.append_nil]
        have HP2 : Hid ((lessF n (L.take (k + 1))).length = p) := Lib.hid (by rw [hrs]; exact HP.out)
        have HO2 : Hid (Ow CtR 2 175 w.heap.size wA (.slice uo p uc) (lessF n (L.take (k + 1)))) := Lib.hid (by rw [hrs]; exact ⟨P, hP1, hP2, hP3, by rw [HP.out]; exact hQ⟩)
        clear hrs hP1 hP2 hP3 hQ
        go_wp2_with fail
        go_roundw
        case rel => exact ⟨k + 1, p, by omega, by omega, by go_num, HP2, HO2, HBA.out⟩
        case measure => simp [intOf]; omega
    obtain rfl : k = m := by omega
    have hta : L.take k = L := List.take_of_length_le (by rw [HM.out]; exact Nat.le_refl _)
    rw [hta] at HO
    go_wp2_with fail
    go_ret
    exact ⟨_, rfl, HO.out, hbel⟩
set_option maxHeartbeats 4000000 in
set_option maxRecDepth 100000 in
theorem lessened_any (v : Value) (n : Int) (L : List Ct) (w : World) (hs : Sp CtR 2 w v L) (hl : L.length ≤ 1000000) (hn0 : 0 ≤ n) (hn1 : n ≤ 4000000000) (hm : Mild L) :
    Calls Try.prog 121 #[v, .int .i64 n] w fun e w' => ∃ v', e = .returned v' ∧ Ow CtR 2 175 w.heap.size w' v' (lessF n L) ∧ Below w.heap.size w w' := by
  obtain ⟨ao, c, rfl, hnc, hc⟩ := hs.shape
  obtain ⟨m, hm'⟩ : ∃ m, L.length = m := ⟨_, rfl⟩
  rw [hm'] at hs hl hnc ⊢
  have HM := Lib.hid hm'
  have HS := Lib.hid hs
  have HB := Lib.hid hm
  clear hm' hs hm
  go_enter Try.func121, Try.ntmps121
  go_wp2_with fail
  go_loopw [5, 10] (fun r i wr => ∃ k p : Nat, k ≤ m ∧ p ≤ k ∧ i = .int .i64 k ∧ Hid ((lessF n (L.take k)).length = p) ∧ Hid (Ow CtR 2 175 w.heap.size wr r (lessF n (L.take k))) ∧ Below w.heap.size w wr) (fun _ i _ => m - (intOf i).toNat)
  case atStart => exact ⟨0, 0, by omega, by omega, rfl, Lib.hid rfl, Lib.hid Ow.nil, Below.refl _ _⟩
  case round =>
    obtain ⟨k, p, hk, hp, rfl, HP, HO, hbel⟩ := hrel
    have hsz := hbel.size
    by_cases hlt : k < m
    · obtain ⟨x, hx⟩ : ∃ x, L[k]? = some x := ⟨_, List.getElem?_eq_getElem (by rw [HM.out]; exact hlt)⟩
      obtain ⟨b, off, cs, rfl, rfl, _, hck⟩ := (HS.out.below ctR_mono hbel).get hx
      have c0 := hck 0 _ rfl
      have c1 := hck 1 _ rfl
      rw [Nat.add_zero] at c0
      have HX := Lib.hid hx
      have hxb := HB.out x (List.mem_of_getElem? hx)
      obtain ⟨uo, uc, rfl, hu1, hu2⟩ := Sp.shapeN HO.out.sp HP.out
      obtain ⟨P, hP1, hP2, hP3, hP4⟩ := HO.out
      rw [HP.out] at hP4
      have hw1 : IntKind.i64.wrap (x.n - n) = x.n - n := IntWalk.i64_in _ (by omega)
      clear hck hx
      go_upto_region 5 with (fail)
      obtain ⟨wA, hwA⟩ : ∃ wA, wA = wr.alloc (Obj.cells #[.string x.ky, .int .i64 x.n] 175) := ⟨_, rfl⟩
      have hbox : wA.heap[wr.heap.size]? = some (.cells #[.string x.ky, .int .i64 x.n] 175 (0, 0)) := by rw [hwA]; exact heap_alloc_new wr _
      have hbA : Below wr.heap.size wr wA := by rw [hwA]; exact (Below.refl _ _).alloc (Nat.le_refl _) _
      rw [← hwA]
      have hbA2 : Below wr.heap.size wr (wA.setCell ⟨wr.heap.size, 1, none⟩ (.int .i64 (x.n - n))) := hbA.setCell (p := ⟨wr.heap.size, 1, none⟩) (Nat.le_refl _) _
      have HBA := Lib.hid (hbel.trans (hbA2.mono hsz))
      have hQ := own_below hP4 hbA2
      obtain ⟨⟨d0, d1⟩, ⟨f0, f1⟩⟩ := bx2 hbox
      have hbox2 : (wA.setCell ⟨wr.heap.size, 1, none⟩ (.int .i64 (x.n - n))).heap[wr.heap.size]? = some (.cells #[.string x.ky, .int .i64 (x.n - n)] 175 (0, 0)) := row_setCell 1 (.int .i64 (x.n - n)) hbox
      generalize wr.heap.size = bx at *
      have HBOX := Lib.hid hbox2
      clear hwA hbox hbA c0 c1 hP4 hbA2 hbox2
      go_upto_region 6 with (fail)
      obtain ⟨wB, hwB⟩ : ∃ wB, wB = wA.setCell ⟨bx, 1, none⟩ (.int .i64 (x.n - n)) := ⟨_, rfl⟩
      rw [← hwB] at hQ
      have HBB : Hid (Below w.heap.size w wB) := Lib.hid (by rw [hwB]; exact HBA.out)
      have hbox := HBOX.out
      rw [← hwB] at hbox ⊢
      obtain ⟨⟨e0, e1⟩, -⟩ := bx2 hbox
      clear hwB hbox d0 d1 f0 f1 HBA HBOX
      by_cases hlt2 : n < x.n
      · have hpos : (0 : Int) < x.n - n := by omega
        have hrs : lessF n (L.take (k + 1)) = lessF n (L.take k) ++ [⟨x.ky, x.n - n⟩] := by rw [lessF_take HX.out, if_pos hlt2]
        have HRS := Lib.hid hrs
        have HLN : Hid ((lessF n (L.take (k + 1))).length = p + 1) := Lib.hid (by rw [hrs, List.length_append, HP.out]; rfl)
        have HPP := Lib.hid (And.intro hP1 (And.intro hP2 hP3))
        clear hrs hP1 hP2 hP3
        go_wp2_with (at_builtin; refine append1 [.string x.ky, .int .i64 (x.n - n)] elCt rfl _ _ rfl hQ HBB.out HBB.out.size rfl rfl rfl (by intro u hu; simp at hu; rcases hu with rfl | rfl <;> rfl) ?c4 ?c5 ?_)
        case c4 => omega
        case c5 => omega
        intro v7 w7 hown7 hbel7 hgr7
        have HON : Hid (Ow CtR 2 175 w.heap.size w7 v7 (lessF n (L.take (k + 1)))) := Lib.hid (by
          rw [HRS.out]
          exact Ow.snoc ctR_grow HPP.out.1 HPP.out.2.1 (show ∀ q ∈ P, CtR wB q.1 q.2 from HPP.out.2.2) hQ HP.out.symm hgr7 hown7 rfl rfl)
        clear hown7 hgr7
        go_wp2_with fail
        go_roundw
        case rel => exact ⟨k + 1, p + 1, by omega, by omega, by go_num, HLN, HON, hbel7⟩
        case measure => simp [intOf]; omega
      · have hpos : ¬ (0 : Int) < x.n - n := by omega
        have hrs : lessF n (L.take (k + 1)) = lessF n (L.take k) := by rw [lessF_take HX.out, if_neg hlt2, List.append_nil]
        have HP2 : Hid ((lessF n (L.take (k + 1))).length = p) := Lib.hid (by rw [hrs]; exact HP.out)
        have HO2 : Hid (Ow CtR 2 175 w.heap.size wB (.slice uo p uc) (lessF n (L.take (k + 1)))) := Lib.hid (by rw [hrs]; exact ⟨P, hP1, hP2, hP3, by rw [HP.out]; exact hQ⟩)
        clear hrs hP1 hP2 hP3 hQ
        go_wp2_with fail
        go_roundw
        case rel => exact ⟨k + 1, p, by omega, by omega, by go_num, HP2, HO2, HBB.out⟩
        case measure => simp [intOf]; omega
    obtain rfl : k = m := by omega
    have hta : L.take k = L := List.take_of_length_le (by rw [HM.out]; exact Nat.le_refl _)
    rw [hta] at HO
    go_wp2_with fail
    go_ret
    exact ⟨_, rfl, HO.out, hbel⟩
end Go.Proofs.Ytcljeedmiobepaa.Hv
/-
  Tallies of what is heavy: the walks of CountIn and Counted.
-/
namespace Go.Proofs.Ytcljeedmiobepaa.Hv
open Go.RowKit Go.Gh
set_option linter.unusedVariables false
theorem drop_at {α : Type} {L : List α} {k : Nat} {x : α} (h : L[k]? = some x) : L.drop k = x :: L.drop (k + 1) := by
  obtain ⟨h1, h2⟩ := List.getElem?_eq_some_iff.1 h
  rw [← h2, List.drop_eq_getElem_cons h1]
def Short (L : List Ct) : Prop := ∀ x ∈ L, x.ky.size ≤ 40
set_option maxHeartbeats 4000000 in
set_option maxRecDepth 100000 in
theorem countin_any (v : Value) (key : ByteArray) (L : List Ct) (w : World) (hs : Sp CtR 2 w v L) (hk40 : key.size ≤ 40) (hm : Short L) :
    Calls Try.prog 55 #[v, .string key] w fun e w' => e = .returned (.int .i64 (cntIn key L)) ∧ Below w.heap.size w w' := by
  obtain ⟨ao, c, rfl, hnc, hc⟩ := hs.shape
  obtain ⟨m, hm'⟩ : ∃ m, L.length = m := ⟨_, rfl⟩
  rw [hm'] at hs hnc ⊢
  have HM := Lib.hid hm'
  have HS := Lib.hid hs
  have HB := Lib.hid hm
  clear hm' hs hm
  go_enter Try.func55, Try.ntmps55
  go_wp2_with fail
  go_loopw [9] (fun i wr => ∃ k : Nat, k ≤ m ∧ i = .int .i64 k ∧ Hid (cntIn key L = cntIn key (L.drop k)) ∧ Below w.heap.size w wr) (fun i _ => m - (intOf i).toNat)
  case atStart => exact ⟨0, by omega, rfl, Lib.hid rfl, Below.refl _ _⟩
  case round =>
    obtain ⟨k, hk, rfl, HG, hbel⟩ := hrel
    have hsz := hbel.size
    by_cases hlt : k < m
    · obtain ⟨x, hx⟩ : ∃ x, L[k]? = some x := ⟨_, List.getElem?_eq_getElem (by rw [HM.out]; exact hlt)⟩
      obtain ⟨b, off, cs, rfl, rfl, _, hck⟩ := (HS.out.below ctR_mono hbel).get hx
      have c0 := hck 0 _ rfl
      have c1 := hck 1 _ rfl
      rw [Nat.add_zero] at c0
      have hg := HG.out
      rw [drop_at hx] at hg
      have HX := Lib.hid hg
      have hsm := kH_same (HB.out x (List.mem_of_getElem? hx)) hk40
      clear hck hx hg
      go_upto_region 4 with (fail)
      obtain ⟨wA, hwA⟩ : ∃ wA, wA = wr.alloc (Obj.cells #[.string x.ky, .int .i64 x.n] 175) := ⟨_, rfl⟩
      have hbox : wA.heap[wr.heap.size]? = some (.cells #[.string x.ky, .int .i64 x.n] 175 (0, 0)) := by rw [hwA]; exact heap_alloc_new wr _
      have hbA : Below wr.heap.size wr wA := by rw [hwA]; exact (Below.refl _ _).alloc (Nat.le_refl _) _
      rw [← hwA]
      have HBA := Lib.hid (hbel.trans (hbA.mono hsz))
      obtain ⟨⟨d0, d1⟩, -⟩ := bx2 hbox
      generalize wr.heap.size = bx at *
      clear hwA hbox hbA c0 c1
      generalize hb2 : (x.ky.toList == key.toList) = B2 at *
      by_cases he : kH x.ky = kH key
      · obtain rfl : B2 = true := by rw [hsm]; exact decide_eq_true he
        have HR : Hid (cntIn key L = x.n) := Lib.hid (HX.out.trans (cntIn_hit he))
        clear hsm he
        go_wp2_with fail
        go_ret
        exact ⟨by rw [HR.out]; rfl, HBA.out⟩
      · obtain rfl : B2 = false := by rw [hsm]; exact decide_eq_false he
        have HR : Hid (cntIn key L = cntIn key (L.drop (k + 1))) := Lib.hid (HX.out.trans (cntIn_on he))
        clear hsm he
        go_wp2_with fail
        go_roundw
        case rel => exact ⟨k + 1, by omega, by go_num, HR, HBA.out⟩
        case measure => simp [intOf]; omega
    obtain rfl : k = m := by omega
    have HR : Hid (cntIn key L = 0) := Lib.hid (by rw [HG.out, List.drop_of_length_le (by rw [HM.out]; exact Nat.le_refl _)]; rfl)
    go_wp2_with fail
    go_ret
    exact ⟨by rw [HR.out]; rfl, hbel⟩
set_option maxHeartbeats 8000000 in
set_option maxRecDepth 100000 in
theorem counted_any (v : Value) (key : ByteArray) (n : Int) (L : List Ct) (w : World) (hs : Sp CtR 2 w v L) (hl : L.length ≤ 1000000) (hn0 : 0 ≤ n) (hn1 : n ≤ 4000000000) (hm : Mild L) (hk40 : key.size ≤ 40) (hsh : Short L) :
    Calls Try.prog 120 #[v, .string key, .int .i64 n] w fun e w' => ∃ v', e = .returned v' ∧ Ow CtR 2 175 w.heap.size w' v' (cnted key n L false) ∧ Below w.heap.size w w' := by
  obtain ⟨ao, c, rfl, hnc, hc⟩ := hs.shape
  obtain ⟨m, hm'⟩ : ∃ m, L.length = m := ⟨_, rfl⟩
  rw [hm'] at hs hl hnc ⊢
  have HM := Lib.hid hm'
  have HS := Lib.hid hs
  have HB := Lib.hid hm
  have HSH := Lib.hid hsh
  clear hm' hs hm hsh
  go_enter Try.func120, Try.ntmps120
  go_wp2_with fail
  go_loopw [7, 8, 13] (fun r q i wr => ∃ (k p : Nat) (acc : List Ct) (put : Bool), k ≤ m ∧ p ≤ 2 * k ∧ i = .int .i64 k ∧ q = .bool put ∧ Hid (acc.length = p) ∧ Hid (cnted key n L false = acc ++ cnted key n (L.drop k) put) ∧ Hid (Ow CtR 2 175 w.heap.size wr r acc) ∧ Below w.heap.size w wr) (fun _ _ i _ => m - (intOf i).toNat)
  case atStart => exact ⟨0, 0, [], false, by omega, by omega, rfl, rfl, Lib.hid rfl, Lib.hid rfl, Lib.hid Ow.nil, Below.refl _ _⟩
  case round =>
    obtain ⟨k, p, acc, put, hk, hp, rfl, rfl, HP, HG, HO, hbel⟩ := hrel
    have hsz := hbel.size
    obtain ⟨uo, uc, rfl, hu1, hu2⟩ := Sp.shapeN HO.out.sp HP.out
    obtain ⟨P, hP1, hP2, hP3, hP4⟩ := HO.out
    rw [HP.out] at hP4
    have HPP := Lib.hid (And.intro hP1 (And.intro hP2 hP3))
    clear hP1 hP2 hP3
    by_cases hlt : k < m
    case neg =>
      obtain rfl : k = m := by omega
      have hg := HG.out
      rw [List.drop_of_length_le (by rw [HM.out]; exact Nat.le_refl _)] at hg
      cases put with
      | true =>
        have HE : Hid (cnted key n L false = acc) := Lib.hid (by rw [hg, cnted, if_pos rfl, List.append_nil])
        clear hg
        go_wp2_with fail
        go_ret
        exact ⟨_, rfl, by rw [HE.out]; exact HO.out, hbel⟩
      | false =>
        have HE : Hid (cnted key n L false = acc ++ [⟨key, n⟩]) := Lib.hid (by rw [hg, cnted, if_neg (by simp)])
        clear hg
        go_wp2_with (at_builtin; refine append1 [.string key, .int .i64 n] elCt rfl _ _ rfl hP4 hbel hbel.size rfl rfl rfl (by intro u hu; simp at hu; rcases hu with rfl | rfl <;> rfl) ?c4 ?c5 ?_)
        case c4 => omega
        case c5 => omega
        intro v7 w7 hown7 hbel7 hgr7
        have HON : Hid (Ow CtR 2 175 w.heap.size w7 v7 (cnted key n L false)) := Lib.hid (by
          rw [HE.out]
          exact Ow.snoc ctR_grow HPP.out.1 HPP.out.2.1 HPP.out.2.2 hP4 HP.out.symm hgr7 hown7 rfl rfl)
        clear hown7 hgr7
        go_wp2_with fail
        go_ret
        exact ⟨_, rfl, HON.out, hbel7⟩
    obtain ⟨x, hx⟩ : ∃ x, L[k]? = some x := ⟨_, List.getElem?_eq_getElem (by rw [HM.out]; exact hlt)⟩
    obtain ⟨b, off, cs, rfl, rfl, _, hck⟩ := (HS.out.below ctR_mono hbel).get hx
    have c0 := hck 0 _ rfl
    have c1 := hck 1 _ rfl
    rw [Nat.add_zero] at c0
    have hg := HG.out
    rw [drop_at hx] at hg
    have HX := Lib.hid hg
    have hxb := HB.out x (List.mem_of_getElem? hx)
    have hsm := kH_same (HSH.out x (List.mem_of_getElem? hx)) hk40
    have hls := kH_less (HSH.out x (List.mem_of_getElem? hx)) hk40
    clear hck hx hg
    go_upto_region 6 with (fail)
    obtain ⟨wA, hwA⟩ : ∃ wA, wA = wr.alloc (Obj.cells #[.string x.ky, .int .i64 x.n] 175) := ⟨_, rfl⟩
    have hbox : wA.heap[wr.heap.size]? = some (.cells #[.string x.ky, .int .i64 x.n] 175 (0, 0)) := by rw [hwA]; exact heap_alloc_new wr _
    have hbA : Below wr.heap.size wr wA := by rw [hwA]; exact (Below.refl _ _).alloc (Nat.le_refl _) _
    rw [← hwA]
    have HBA := Lib.hid (hbel.trans (hbA.mono hsz))
    have hQ := own_below hP4 hbA
    obtain ⟨⟨d0, d1⟩, ⟨f0, f1⟩⟩ := bx2 hbox
    have hbu : ∀ B', (Value.slice uo p uc).ownBlock = some B' → B' ≠ wr.heap.size := fun B' h e => by
      have := (hP4.lt B' h).2
      omega
    have HBOX := Lib.hid hbox
    have hbxl : wr.heap.size < wA.heap.size := (Array.getElem?_eq_some_iff.1 hbox).1
    have hbw : w.heap.size ≤ wr.heap.size := hsz
    generalize wr.heap.size = bx at *
    clear hwA hbox hbA c0 c1 hP4
    generalize hb2 : (x.ky.toList == key.toList) = B2 at *
    generalize hb3 : Op.bytesLess x.ky.toList key.toList = B3 at *
    by_cases he : kH x.ky = kH key
    · obtain rfl : B2 = true := by rw [hsm]; exact decide_eq_true he
      have hw1 : IntKind.i64.wrap (x.n + n) = x.n + n := IntWalk.i64_in _ (by omega)
      have HR : Hid (cnted key n L false = (acc ++ [⟨x.ky, x.n + n⟩]) ++ cnted key n (L.drop (k + 1)) true) := Lib.hid (by rw [HX.out, cnted_hit he, List.append_assoc]; rfl)
      have HLN : Hid ((acc ++ [(⟨x.ky, x.n + n⟩ : Ct)]).length = p + 1) := Lib.hid (by rw [List.length_append, HP.out]; rfl)
      have hbox2 : (wA.setCell ⟨bx, 1, none⟩ (.int .i64 (x.n + n))).heap[bx]? = some (.cells #[.string x.ky, .int .i64 (x.n + n)] 175 (0, 0)) := row_setCell 1 (.int .i64 (x.n + n)) HBOX.out
      have hQ2 := ownsRow_setCell_other hQ (a := ⟨bx, 1, none⟩) (fun h => hbu bx h rfl) (.int .i64 (x.n + n))
      have HBB := Lib.hid (HBA.out.setCell (p := ⟨bx, 1, none⟩) hbw (.int .i64 (x.n + n)))
      have HBOX2 := Lib.hid hbox2
      clear hsm hls he hbox2
      go_upto_region 9 with (fail)
      obtain ⟨wB, hwB⟩ : ∃ wB, wB = wA.setCell ⟨bx, 1, none⟩ (.int .i64 (x.n + n)) := ⟨_, rfl⟩
      rw [← hwB] at hQ2
      have HBB2 : Hid (Below w.heap.size w wB) := Lib.hid (by rw [hwB]; exact HBB.out)
      have hbox := HBOX2.out
      rw [← hwB] at hbox ⊢
      obtain ⟨⟨e0, e1⟩, -⟩ := bx2 hbox
      clear hwB hbox d0 d1 f0 f1 HBA HBOX HBOX2 HBB hQ
      go_wp2_with (at_builtin; refine append1 [.string x.ky, .int .i64 (x.n + n)] elCt rfl _ _ rfl hQ2 HBB2.out HBB2.out.size rfl rfl rfl (by intro u hu; simp at hu; rcases hu with rfl | rfl <;> rfl) ?c4 ?c5 ?_)
      case c4 => omega
      case c5 => omega
      intro v7 w7 hown7 hbel7 hgr7
      have HON : Hid (Ow CtR 2 175 w.heap.size w7 v7 (acc ++ [⟨x.ky, x.n + n⟩])) := Lib.hid (Ow.snoc ctR_grow HPP.out.1 HPP.out.2.1 (show ∀ q ∈ P, CtR wB q.1 q.2 from HPP.out.2.2) hQ2 HP.out.symm hgr7 hown7 rfl rfl)
      clear hown7 hgr7
      go_wp2_with fail
      go_roundw
      case rel => exact ⟨k + 1, p + 1, _, true, by omega, by omega, by go_num, rfl, HLN, HR, HON, hbel7⟩
      case measure => simp [intOf]; omega
    obtain rfl : B2 = false := by rw [hsm]; exact decide_eq_false he
    by_cases hnew : put = false ∧ kH key < kH x.ky
    · obtain ⟨rfl, hkx⟩ := hnew
      obtain rfl : B3 = false := by rw [hls]; exact decide_eq_false (by omega)
      have HR : Hid (cnted key n L false = ((acc ++ [⟨key, n⟩]) ++ [x]) ++ cnted key n (L.drop (k + 1)) true) := Lib.hid (by rw [HX.out, cnted_new hkx, List.append_assoc, List.append_assoc]; rfl)
      have HLN : Hid (((acc ++ [(⟨key, n⟩ : Ct)]) ++ [x]).length = p + 1 + 1) := Lib.hid (by rw [List.length_append, List.length_append, HP.out]; rfl)
      clear hsm hls he hkx f0 f1
      go_wp2_with (at_builtin; refine append1 [.string key, .int .i64 n] elCt rfl _ _ rfl hQ HBA.out HBA.out.size rfl rfl rfl (by intro u hu; simp at hu; rcases hu with rfl | rfl <;> rfl) ?c4 ?c5 ?_)
      case c4 => omega
      case c5 => omega
      intro v6 w6 hown6 hbel6 hgr6
      have HON6 : Hid (Ow CtR 2 175 w.heap.size w6 v6 (acc ++ [⟨key, n⟩])) := Lib.hid (Ow.snoc ctR_grow HPP.out.1 HPP.out.2.1 (show ∀ q ∈ P, CtR wA q.1 q.2 from HPP.out.2.2) hQ HP.out.symm hgr6 hown6 rfl rfl)
      have HL6 : Hid ((acc ++ [(⟨key, n⟩ : Ct)]).length = p + 1) := Lib.hid (by rw [List.length_append, HP.out]; rfl)
      have hbx6 := (hgr6.block bx hbxl (fun h => hbu bx h.symm rfl)).trans HBOX.out
      obtain ⟨⟨e0, e1⟩, -⟩ := bx2 hbx6
      obtain ⟨xo, xc, rfl, -, hx2⟩ := Sp.shapeN HON6.out.sp HL6.out
      obtain ⟨P6, g1, g2, g3, g4⟩ := HON6.out
      rw [HL6.out] at g4
      have HPP6 := Lib.hid (And.intro g1 (And.intro g2 g3))
      clear hown6 hgr6 hbx6 hQ d0 d1 g1 g2 g3
      go_wp2_with (at_builtin; refine append1 [.string x.ky, .int .i64 x.n] elCt rfl _ _ rfl g4 hbel6 hbel6.size rfl rfl rfl (by intro u hu; simp at hu; rcases hu with rfl | rfl <;> rfl) ?c6 ?c7 ?_)
      case c6 => omega
      case c7 => omega
      intro v7 w7 hown7 hbel7 hgr7
      have HON : Hid (Ow CtR 2 175 w.heap.size w7 v7 ((acc ++ [⟨key, n⟩]) ++ [x])) := Lib.hid (Ow.snoc ctR_grow HPP6.out.1 HPP6.out.2.1 HPP6.out.2.2 g4 HL6.out.symm hgr7 hown7 rfl rfl)
      clear hown7 hgr7
      go_wp2_with fail
      go_roundw
      case rel => exact ⟨k + 1, p + 1 + 1, _, true, by omega, by omega, by go_num, rfl, HLN, HR, HON, hbel7⟩
      case measure => simp [intOf]; omega
    have HR : Hid (cnted key n L false = (acc ++ [x]) ++ cnted key n (L.drop (k + 1)) put) := Lib.hid (by rw [HX.out, cnted_on he hnew, List.append_assoc]; rfl)
    have HLN : Hid ((acc ++ [x]).length = p + 1) := Lib.hid (by rw [List.length_append, HP.out]; rfl)
    cases put with
    | true =>
      clear hsm hls he hnew f0 f1
      go_wp2_with (at_builtin; refine append1 [.string x.ky, .int .i64 x.n] elCt rfl _ _ rfl hQ HBA.out HBA.out.size rfl rfl rfl (by intro u hu; simp at hu; rcases hu with rfl | rfl <;> rfl) ?c4 ?c5 ?_)
      case c4 => omega
      case c5 => omega
      intro v7 w7 hown7 hbel7 hgr7
      have HON : Hid (Ow CtR 2 175 w.heap.size w7 v7 (acc ++ [x])) := Lib.hid (Ow.snoc ctR_grow HPP.out.1 HPP.out.2.1 (show ∀ q ∈ P, CtR wA q.1 q.2 from HPP.out.2.2) hQ HP.out.symm hgr7 hown7 rfl rfl)
      clear hown7 hgr7
      go_wp2_with fail
      go_roundw
      case rel => exact ⟨k + 1, p + 1, _, true, by omega, by omega, by go_num, rfl, HLN, HR, HON, hbel7⟩
      case measure => simp [intOf]; omega
    | false =>
      obtain rfl : B3 = true := by
        have h' : ¬ kH key < kH x.ky := fun h => hnew ⟨rfl, h⟩
        rw [hls]; exact decide_eq_true (by omega)
      clear hsm hls he hnew f0 f1
      go_wp2_with (at_builtin; refine append1 [.string x.ky, .int .i64 x.n] elCt rfl _ _ rfl hQ HBA.out HBA.out.size rfl rfl rfl (by intro u hu; simp at hu; rcases hu with rfl | rfl <;> rfl) ?c4 ?c5 ?_)
      case c4 => omega
      case c5 => omega
      intro v7 w7 hown7 hbel7 hgr7
      have HON : Hid (Ow CtR 2 175 w.heap.size w7 v7 (acc ++ [x])) := Lib.hid (Ow.snoc ctR_grow HPP.out.1 HPP.out.2.1 (show ∀ q ∈ P, CtR wA q.1 q.2 from HPP.out.2.2) hQ HP.out.symm hgr7 hown7 rfl rfl)
      clear hown7 hgr7
      go_wp2_with fail
      go_roundw
      case rel => exact ⟨k + 1, p + 1, _, false, by omega, by omega, by go_num, rfl, HLN, HR, HON, hbel7⟩
      case measure => simp [intOf]; omega
end Go.Proofs.Ytcljeedmiobepaa.Hv
