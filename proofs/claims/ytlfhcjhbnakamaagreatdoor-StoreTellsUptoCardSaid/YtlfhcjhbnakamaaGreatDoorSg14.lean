/-
  A put: the walk of PutOf (PRINTED by mkst3.py).
-/
import Derived.Test.YtlfhcjhbnakamaaGreatDoorSg1
import Derived.Test.YtlfhcjhbnakamaaGreatDoorSg2
import Derived.Test.YtlfhcjhbnakamaaGreatDoorSg4
import Derived.Test.YtlfhcjhbnakamaaGreatDoorSg7
import Derived.Test.YtlfhcjhbnakamaaGreatDoorSg12
import Derived.Test.YtlfhcjhbnakamaaGreatDoorSg13
import Derived.Deep.QuietTactic
import Derived.BigQuiet
import Derived.IntWalk
import Derived.ChangeKeysEq
namespace Go.Proofs.YtlfhcjhbnakamaaGreatDoor.Sto
open Go.RowKit Go.Gh Go.Proofs.YtlfhcjhbnakamaaGreatDoor.Bits Go.Proofs.YtlfhcjhbnakamaaGreatDoor.Lab Go.Proofs.YtlfhcjhbnakamaaGreatDoor.Tk
set_option linter.unusedVariables false
set_option linter.unusedSimpArgs false
/-- x[lo:], of bytes. -/
theorem wpList_fromB {P : Program} {ops : Array Oper} {rest : List Oper} {o : Oper} {a : Act} {Q : Exit → Act → World → Prop} {W W0 : World} {t e : TypeId} {bytes n : Nat} {x l : Operand} {v : Value} {xs : List Int} (L : Nat) (el : Elem P t e 1 bytes) (hgd : o.guard = none)
    (ho : o.op = .slice t x (some l) none none) (hx : a.eval x = v) (hl : ∃ k, a.eval l = .int k L) (hS : Sl W0 1 v n (xs.map (Value.int .u8))) (h1 : L ≤ n) (hk : ∀ ao c, Sl W0 1 (.slice ao (n - L) c) (n - L) ((xs.drop L).map (Value.int .u8)) → wpList P ops Q rest (a.put o.dst (.slice ao (n - L) c)) W) : wpList P ops Q (o :: rest) a W := by
  obtain ⟨ao, cap, rfl, g2, g3, g4, g5, g6⟩ := hS
  have hS : Sl W0 1 (.slice ao n cap) n (xs.map (Value.int .u8)) := ⟨ao, cap, rfl, g2, g3, g4, g5, g6⟩
  obtain ⟨e1, e2⟩ := elem_eq el
  obtain ⟨kl, hl⟩ := hl
  refine wpList_run hgd (exec_slice (L := L) (H := n) el ho hx ?_) ?_
  · simp only [Option.map_some, Option.map_none, hl]
    have := run_slice_l W t ao n cap e1 kl (L : Int) (by omega) (by omega)
    simpa using this
  · have hs := sl_sliced hS h1 (Nat.le_refl _)
    rw [Nat.mul_one, Nat.mul_one, ← List.map_drop, List.take_of_length_le (by rw [List.length_map, List.length_drop]; have := g5; rw [List.length_map, Nat.mul_one] at this; omega)] at hs
    exact hk _ _ hs
theorem st2 {w : World} {B : Nat} {T : TypeId} {a b : Value} (x0 x1 : Value) (h : w.heap[B]? = some (.cells #[a, b] T (0, 0))) : ((w.setCell ⟨B, 0, none⟩ x0).setCell ⟨B, 1, none⟩ x1).heap[B]? = some (.cells #[x0, x1] T (0, 0)) := by
  have h0 := row_setCell 0 x0 h
  have h1 := row_setCell 1 x1 h0
  simpa using h1
/-- A box made and filled. -/
theorem box_set (w : World) (x y a b : Value) (T : TypeId) : ∃ wx, wx = ((w.alloc (Obj.cells #[a, b] T)).setCell ⟨w.heap.size, 0, none⟩ x).setCell ⟨w.heap.size, 1, none⟩ y ∧ wx.heap[w.heap.size]? = some (.cells #[x, y] T (0, 0)) ∧ Below w.heap.size w wx ∧ w.heap.size < wx.heap.size := by
  have h0 := heap_alloc_new w (Obj.cells #[a, b] T)
  have h1 := st2 x y h0
  refine ⟨_, rfl, h1, ?_, (Array.getElem?_eq_some_iff.1 h1).1⟩
  exact (((Below.refl _ _).alloc (Nat.le_refl _) _).setCell (p := ⟨w.heap.size, 0, none⟩) (Nat.le_refl _) _).setCell (p := ⟨w.heap.size, 1, none⟩) (Nat.le_refl _) _
/-- What PutOf tells. -/
def PoP (w : World) (r : Option (List Lb × Int × Int)) (e : Ending) (w' : World) : Prop := Below w.heap.size w w' ∧ match r with
  | none => e = .returned (.tuple #[.slice none 0 0, .agg #[.int .i64 0, .int .i64 0], .bool false])
  | some p => ∃ v, e = .returned (.tuple #[v, .agg #[.int .i64 p.2.1, .int .i64 p.2.2], .bool true]) ∧ Sp LbR 2 w' v p.1
theorem poP_none {w w' : World} {r : Option (List Lb × Int × Int)} {e : Ending} (hr : r = none) (hb : Below w.heap.size w w') (he : e = .returned (.tuple #[.slice none 0 0, .agg #[.int .i64 0, .int .i64 0], .bool false])) : PoP w r e w' := by
  subst hr
  exact ⟨hb, he⟩
theorem poP_some {w w' : World} {r : Option (List Lb × Int × Int)} {e : Ending} {v : Value} {L : List Lb} {T V : Int} (hr : r = some (L, T, V)) (hb : Below w.heap.size w w') (he : e = .returned (.tuple #[v, .agg #[.int .i64 T, .int .i64 V], .bool true])) (ho : Sp LbR 2 w' v L) : PoP w r e w' := by
  subst hr
  exact ⟨hb, v, he, ho⟩
theorem ow_set2 {T : TypeId} {w : World} {B g : Nat} {v x y : Value} {L : List Lb} (h : Ow LbR 2 T B w v L) (hg : g < B) : Ow LbR 2 T B ((w.setCell ⟨g, 0, none⟩ x).setCell ⟨g, 1, none⟩ y) v L := by
  obtain ⟨P, h1, h2, h3, h4⟩ := h
  have hne : ∀ j, v.ownBlock ≠ some (⟨g, j, none⟩ : Addr).block := fun j h => absurd (h4.lt _ h).1 (by show ¬ B ≤ g; omega)
  exact ⟨P, h1, h2, fun p hp => h3 p hp, ownsRow_setCell_other (ownsRow_setCell_other h4 (a := ⟨g, 0, none⟩) (hne 0) x) (a := ⟨g, 1, none⟩) (hne 1) y⟩
theorem bytesL_wf {l : List Int} (h : BytesL l) : ∀ z ∈ l, (Lit.int .u8 z).wf = true := by
  intro z hz
  have := h z hz
  simp [Lit.wf, IntKind.min, IntKind.max, IntKind.signed, IntKind.bits]
  omega
theorem bytes_drop {l : List Int} (h : BytesL l) (k : Nat) : BytesL (l.drop k) := fun z hz => h z (List.mem_of_mem_drop hz)
set_option maxHeartbeats 4000000 in
set_option maxRecDepth 100000 in
theorem putof_any (v : Value) (l : List Int) (w : World) (hv : Sl w 1 v l.length (l.map (Value.int .u8))) (hb : BytesL l) (hn : l.length ≤ 1048576) : Calls Tryz.prog 20 #[v] w (PoP w (decF l)) := by
  obtain ⟨ao, c, rfl, -, -, -⟩ := hv.shape
  obtain ⟨n, hln⟩ : ∃ n, l.length = n := ⟨_, rfl⟩
  rw [hln] at hv hn ⊢
  obtain ⟨wa, hwa, hbox, hba, hsa⟩ := box_smp w 0 0
  have HBA := Lib.hid hba
  have HWA := Lib.hid hwa
  have HV := Lib.hid (hv.below hba)
  obtain ⟨T1, hT1⟩ : ∃ T, takeS 0 0 l = T := ⟨_, rfl⟩
  obtain ⟨u1, k1, e1⟩ := T1
  have h := numof_any _ n l wa (hv.below hba) (bytesL_wf hb)
  rw [hT1] at h
  unfold ret3 at h
  have HC1 := Lib.hid h
  have HT1 := Lib.hid hT1
  have HB := Lib.hid hb
  have HLN := Lib.hid hln
  obtain ⟨D, hD⟩ : ∃ D, decF l = D := ⟨_, rfl⟩
  rw [hD]
  have HDD := Lib.hid hD
  clear h hv hb hT1 hD hln hwa hba
  go_enter Tryz.func20, Tryz.ntmps20
  go_upto_region 1 with (fail)
  rw [← HWA.out]
  obtain ⟨bx, hbx⟩ : ∃ bx, w.heap.size = bx := ⟨_, rfl⟩
  rw [hbx] at hbox hsa ⊢
  have HBX := Lib.hid hbx
  clear hbx
  go_upto_region 2 with (go_at_call 49; refine HC1.out.mono ?_; rintro e w1 ⟨rfl, rfl⟩)
  by_cases he : e1 = 0
  case neg =>
    have HD : Hid (D = none) := Lib.hid (by rw [← HDD.out]; exact dec_1 HT1.out he)
    have t1 : (e1 != 0) = true := by rw [bne_iff_ne]; exact he
    clear he
    have hR := st2 (.int .i64 (0)) (.int .i64 (0)) hbox
    obtain ⟨⟨s0, s1⟩, -⟩ := bx2 hR
    obtain ⟨⟨d0, d1⟩, ⟨f0, f1⟩⟩ := bx2 hbox
    clear hR hbox
    go_wp2_with fail
    refine bodyPost_ret (v := .tuple #[.slice none 0 0, .agg #[.int .i64 (0), .int .i64 (0)], .bool false]) (by simp [results, Tryz.results20, go_sem, s0, s1]) rfl ?_
    exact poP_none HD.out ((HBA.out.setCell (p := ⟨bx, 0, none⟩) (Nat.le_of_eq HBX.out) _).setCell (p := ⟨bx, 1, none⟩) (Nat.le_of_eq HBX.out) _) rfl
  subst he
  have hta := take_all HB.out HT1.out
  have HU1 : Hid (0 ≤ u1 ∧ u1 < 18446744073709551616) := Lib.hid ⟨hta.1, hta.2.1⟩
  have hk0 := hta.2.2.1
  have hkl := hta.2.2.2.1
  have hk10 := hta.2.2.2.2.1
  obtain ⟨p, rfl⟩ : ∃ p : Nat, k1 = p := ⟨k1.toNat, by omega⟩
  rw [HLN.out] at hkl
  have hpl : p ≤ n := by omega
  obtain ⟨l1, hl1⟩ : ∃ x, l.drop p = x := ⟨_, rfl⟩
  have HL1 := Lib.hid hl1
  have HB1 : Hid (BytesL l1) := Lib.hid (by rw [← hl1]; exact bytes_drop HB.out p)
  have HLN1 : Hid (l1.length = n - p) := Lib.hid (by rw [← hl1, List.length_drop, HLN.out])
  obtain ⟨T2, hT2⟩ : ∃ T, takeS 0 0 l1 = T := ⟨_, rfl⟩
  obtain ⟨u2, k2, e2⟩ := T2
  have HT2 := Lib.hid hT2
  have HC2 : Hid (∀ v m, Sl wa 1 v m ((l.drop p).map (Value.int .u8)) → Calls Tryz.prog 49 #[v] wa fun e w' => e = .returned (.tuple #[.int .u64 u2, .int .i64 k2, .int .i64 e2]) ∧ wa = w') := Lib.hid (fun v m hs => by
    rw [HL1.out] at hs
    have h := numof_any v m l1 wa hs (bytesL_wf HB1.out)
    rw [HT2.out] at h
    exact h)
  have HPL := Lib.hid hpl
  clear hta hk0 hkl hl1 hT2
  go_upto_region 5 with (first
    | (go_at_call 49; refine (HC2.out _ _ HS1.out).mono ?_; rintro e w2 ⟨rfl, rfl⟩)
    | (with_reducible refine wpList_fromB (o := ⟨some 25, _, _, _, _, _⟩) p elU8 rfl rfl rfl ⟨_, rfl⟩ HV.out HPL.out ?_; intro ao1 c1 hs1; have HS1 := Lib.hid hs1; clear hs1))
  by_cases he : e2 = 0
  case neg =>
    have HD : Hid (D = none) := Lib.hid (by rw [← HDD.out]; exact dec_2 HT1.out (by rw [Int.toNat_natCast, HL1.out]; exact HT2.out) he)
    have t1 : (e2 != 0) = true := by rw [bne_iff_ne]; exact he
    clear he
    have hR := st2 (.int .i64 (0)) (.int .i64 (0)) hbox
    obtain ⟨⟨s0, s1⟩, -⟩ := bx2 hR
    obtain ⟨⟨d0, d1⟩, ⟨f0, f1⟩⟩ := bx2 hbox
    clear hR hbox
    go_wp2_with fail
    refine bodyPost_ret (v := .tuple #[.slice none 0 0, .agg #[.int .i64 (0), .int .i64 (0)], .bool false]) (by simp [results, Tryz.results20, go_sem, s0, s1]) rfl ?_
    exact poP_none HD.out ((HBA.out.setCell (p := ⟨bx, 0, none⟩) (Nat.le_of_eq HBX.out) _).setCell (p := ⟨bx, 1, none⟩) (Nat.le_of_eq HBX.out) _) rfl
  subst he
  have hta := take_all HB1.out HT2.out
  have HU2 : Hid (0 ≤ u2 ∧ u2 < 18446744073709551616) := Lib.hid ⟨hta.1, hta.2.1⟩
  have hk0 := hta.2.2.1
  have hkl := hta.2.2.2.1
  obtain ⟨q, rfl⟩ : ∃ q : Nat, k2 = q := ⟨k2.toNat, by omega⟩
  rw [HLN1.out] at hkl
  have hpq : p + q ≤ n := by omega
  have HPQ := Lib.hid hpq
  obtain ⟨l2, hl2⟩ : ∃ x, l.drop (p + q) = x := ⟨_, rfl⟩
  have HL2 := Lib.hid hl2
  have HLL : Hid ((toBy l2).length ≤ 1048576) := Lib.hid (by rw [toBy_len, ← hl2, List.length_drop, HLN.out]; omega)
  have hd3 : D = match lbF (toBy l2) with | none => none | some L => if outT (zagI u1) then none else some (L, zagI u1, zagI u2) := by
    rw [← HDD.out, dec_3 HT1.out (by rw [Int.toNat_natCast, HL1.out]; exact HT2.out), Int.toNat_natCast, Int.toNat_natCast, List.drop_drop, hl2]
    cases lbF (toBy l2) <;> rfl
  have hlo := lbof_any (toBy l2) wa HLL.out
  have HZ := Lib.hid (fun u (h : 0 ≤ u ∧ u < 18446744073709551616) W => zagof_any u h.1 h.2 W)
  clear hta hk0 hkl hl2
  cases hr : lbF (toBy l2) with
  | none =>
    rw [hr] at hd3 hlo
    have HD : Hid (D = none) := Lib.hid hd3
    have HLO := Lib.hid hlo
    clear hd3 hlo hr
    go_upto_region 8 with (first
      | (go_at_call 12; refine HLO.out.mono ?_; rintro e w3 ⟨hb3, ao3, n3, c3, rfl⟩; have hbox3 := (hb3.block bx hsa).trans hbox; have HB3 := Lib.hid (HBA.out.trans (hb3.mono HBA.out.size)); clear hb3)
      | (with_reducible refine wpList_fromB (o := ⟨some 38, _, _, _, _, _⟩) (p + q) elU8 rfl rfl rfl ⟨_, rfl⟩ HV.out HPQ.out ?_; intro ao2 c2 hs2; rw [HL2.out] at hs2; have hcv := run_bytes (dst := 9) Tryz.underlying45 Tryz.underlying5 Tryz.underlying9 hs2; rw [bstr_toBy] at hcv; clear hs2))
    clear hbox
    have h3l : bx < w3.heap.size := (Array.getElem?_eq_some_iff.1 hbox3).1
    obtain ⟨wx, hwx, hbx2, hbbx, -⟩ := box_smp w3 (zagI u1) (zagI u2)
    go_upto_region 9 with (go_at_call 50; refine (HZ.out _ (by first | exact HU1.out | exact HU2.out) _).mono ?_; rintro e wz ⟨rfl, rfl⟩)
    rw [← hwx]
    have hbox := (hbbx.block bx h3l).trans hbox3
    have HBW := Lib.hid (HB3.out.trans (hbbx.mono HB3.out.size))
    clear hwx hbbx hbox3
    obtain ⟨⟨y0, y1⟩, -⟩ := bx2 hbx2
    clear hbx2
    have hR := st2 (.int .i64 (0)) (.int .i64 (0)) hbox
    obtain ⟨⟨s0, s1⟩, -⟩ := bx2 hR
    obtain ⟨⟨d0, d1⟩, ⟨f0, f1⟩⟩ := bx2 hbox
    clear hR hbox
    go_wp2_with fail
    refine bodyPost_ret (v := .tuple #[.slice none 0 0, .agg #[.int .i64 (0), .int .i64 (0)], .bool false]) (by simp [results, Tryz.results20, go_sem, s0, s1]) rfl ?_
    exact poP_none HD.out ((HBW.out.setCell (p := ⟨bx, 0, none⟩) (Nat.le_of_eq HBX.out) _).setCell (p := ⟨bx, 1, none⟩) (Nat.le_of_eq HBX.out) _) rfl
  | some L =>
    rw [hr] at hd3 hlo
    have HLF := Lib.hid (lbF_spec hr).1
    have HLO := Lib.hid hlo
    have HDS := Lib.hid hd3
    clear hd3 hlo hr
    go_upto_region 8 with (first
      | (go_at_call 12; refine HLO.out.mono ?_; rintro e w3 ⟨hb3, ao3, n3, c3, rfl, ho3⟩; have hbox3 := (hb3.block bx hsa).trans hbox; have HB3 := Lib.hid (HBA.out.trans (hb3.mono HBA.out.size)); clear hb3; have HOW := Lib.hid ho3; clear ho3)
      | (with_reducible refine wpList_fromB (o := ⟨some 38, _, _, _, _, _⟩) (p + q) elU8 rfl rfl rfl ⟨_, rfl⟩ HV.out HPQ.out ?_; intro ao2 c2 hs2; rw [HL2.out] at hs2; have hcv := run_bytes (dst := 9) Tryz.underlying45 Tryz.underlying5 Tryz.underlying9 hs2; rw [bstr_toBy] at hcv; clear hs2))
    clear hbox
    have h3l : bx < w3.heap.size := (Array.getElem?_eq_some_iff.1 hbox3).1
    obtain ⟨wx, hwx, hbx2, hbbx, -⟩ := box_smp w3 (zagI u1) (zagI u2)
    go_upto_region 9 with (go_at_call 50; refine (HZ.out _ (by first | exact HU1.out | exact HU2.out) _).mono ?_; rintro e wz ⟨rfl, rfl⟩)
    rw [← hwx]
    have hbox := (hbbx.block bx h3l).trans hbox3
    have HBW := Lib.hid (HB3.out.trans (hbbx.mono HB3.out.size))
    have HO3 := Lib.hid (HOW.out.below lbR_mono hbbx)
    have HS3 := Lib.hid HO3.out.sp
    clear hwx hbbx hbox3
    obtain ⟨⟨y0, y1⟩, -⟩ := bx2 hbx2
    have hbxl : bx < wx.heap.size := (Array.getElem?_eq_some_iff.1 hbox).1
    have hb2l : w3.heap.size < wx.heap.size := (Array.getElem?_eq_some_iff.1 hbx2).1
    have HPF := Lib.hid (putfault_any _ L (zagI u1) (zagI u2) wx HS3.out)
    by_cases ho : outT (zagI u1)
    · have HD : Hid (D = none) := Lib.hid (by have := HDS.out; rw [this]; exact if_pos ho)
      have hpf : putF L (zagI u1) = 6 := by unfold putF; rw [if_neg (by rw [HLF.out]; simp), if_pos ho]
      rw [hpf] at HPF
      clear hpf ho
      go_upto_region 10 with (go_at_call 21; refine HPF.out.mono ?_; rintro e w5 ⟨rfl, hb5⟩; have hbox5 := (hb5.block bx hbxl).trans hbox; have HB5 := Lib.hid (HBW.out.trans (hb5.mono HBW.out.size)); clear hb5)
      clear hbox hbx2 y0 y1
      have hbox := hbox5
      clear hbox5
      have hR := st2 (.int .i64 (0)) (.int .i64 (0)) hbox
      obtain ⟨⟨s0, s1⟩, -⟩ := bx2 hR
      obtain ⟨⟨d0, d1⟩, ⟨f0, f1⟩⟩ := bx2 hbox
      clear hR hbox
      go_wp2_with fail
      refine bodyPost_ret (v := .tuple #[.slice none 0 0, .agg #[.int .i64 (0), .int .i64 (0)], .bool false]) (by simp [results, Tryz.results20, go_sem, s0, s1]) rfl ?_
      exact poP_none HD.out ((HB5.out.setCell (p := ⟨bx, 0, none⟩) (Nat.le_of_eq HBX.out) _).setCell (p := ⟨bx, 1, none⟩) (Nat.le_of_eq HBX.out) _) rfl
    · have HD : Hid (D = some (L, (zagI u1), (zagI u2))) := Lib.hid (by have := HDS.out; rw [this]; exact if_neg ho)
      have hpf : putF L (zagI u1) = 0 := by unfold putF; rw [if_neg (by rw [HLF.out]; simp), if_neg ho]
      rw [hpf] at HPF
      clear hpf ho
      go_upto_region 11 with (go_at_call 21; refine HPF.out.mono ?_; rintro e w5 ⟨rfl, hb5⟩; have hbox5 := (hb5.block bx hbxl).trans hbox; have hbx5 := (hb5.block _ hb2l).trans hbx2; have HO5 := Lib.hid (HO3.out.below lbR_mono hb5); have HB5 := Lib.hid (HBW.out.trans (hb5.mono HBW.out.size)); clear hb5)
      clear hbox hbx2 y0 y1
      obtain ⟨⟨y0, y1⟩, -⟩ := bx2 hbx5
      have hbox := hbox5
      clear hbox5 hbx5
      have hR := st2 (.int .i64 (zagI u1)) (.int .i64 (zagI u2)) hbox
      obtain ⟨⟨s0, s1⟩, -⟩ := bx2 hR
      obtain ⟨⟨d0, d1⟩, ⟨f0, f1⟩⟩ := bx2 hbox
      clear hR hbox
      refine wp_region_noPanic ?_
      go_region
      refine NoPanic.normal ?_
      go_wp2_with fail
      refine bodyPost_ret (v := .tuple #[.slice ao3 n3 c3, .agg #[.int .i64 (zagI u1), .int .i64 (zagI u2)], .bool true]) (by simp [results, Tryz.results20, go_sem, s0, s1]) rfl ?_
      exact poP_some HD.out ((HB5.out.setCell (p := ⟨bx, 0, none⟩) (Nat.le_of_eq HBX.out) _).setCell (p := ⟨bx, 1, none⟩) (Nat.le_of_eq HBX.out) _).drew rfl ((ow_set2 HO5.out hsa).below lbR_mono ((Below.refl _ _).drew)).sp
end Go.Proofs.YtlfhcjhbnakamaaGreatDoor.Sto
/-
  The walk of slices.Equal at []byte.
-/
namespace Go.Proofs.YtlfhcjhbnakamaaGreatDoor.Eqb
open Go.RowKit Go.Gh
set_option linter.unusedVariables false
theorem take_snoc1 (l : List Int) {i : Nat} (h : i < l.length) : l.take i ++ [l.getD i 0] = l.take (i + 1) := by
  rw [List.take_succ_eq_append_getElem h, List.getD_eq_getElem?_getD, List.getElem?_eq_getElem h]
  rfl
theorem take_eq_step {l l' : List Int} {k : Nat} (h : l.take k = l'.take k) (hk : k < l.length) (hk' : k < l'.length) (he : l.getD k 0 = l'.getD k 0) : l.take (k + 1) = l'.take (k + 1) := by
  rw [← take_snoc1 l hk, ← take_snoc1 l' hk', h, he]
theorem ne_at {l l' : List Int} {k : Nat} (he : ¬ l.getD k 0 = l'.getD k 0) : ¬ l = l' := fun h => he (by rw [h])
set_option maxRecDepth 100000 in
theorem eqb_any (v v' : Value) (n n' : Nat) (l l' : List Int) (w : World) (hs : Sl w 1 v n (l.map (Value.int .u8))) (ht : Sl w 1 v' n' (l'.map (Value.int .u8))) (hl : l.length = n) (hl' : l'.length = n') :
    Calls Tryz.prog 48 #[v, v'] w fun e w' => e = .returned (.bool (decide (l = l'))) ∧ Below w.heap.size w w' := by
  obtain ⟨ao, c, rfl, hnc, hc, _⟩ := hs.shape
  obtain ⟨bo, d, rfl, hod, hd, _⟩ := ht.shape
  have HL := Lib.hid hl
  have HL' := Lib.hid hl'
  by_cases hne : n = n'
  case neg =>
    have HF : Hid (decide (l = l') = false) := Lib.hid (decide_eq_false fun h => hne (by rw [← hl, ← hl', h]))
    have t1 : ((n : Int) != (n' : Int)) = true := by rw [bne_iff_ne]; omega
    clear hl hl' hne
    go_enter Tryz.func48, Tryz.ntmps48
    go_wp2_with fail
    go_ret
    exact ⟨ret_bool HF.out.symm, Below.refl _ _⟩
  subst hne
  clear hl hl'
  have t1 : ((n : Int) != (n : Int)) = false := by simp
  go_enter Tryz.func48, Tryz.ntmps48
  go_wp2_with fail
  go_loopw [5, 13] (fun _ i wr => ∃ k : Nat, k ≤ n ∧ i = .int .i64 k ∧ Below w.heap.size w wr ∧ Hid (l.take k = l'.take k)) (fun _ i _ => n - (intOf i).toNat)
  case atStart => exact ⟨0, by omega, rfl, Below.refl _ _, rfl⟩
  case round =>
    obtain ⟨k, hk, rfl, hbr, HE⟩ := hrel
    by_cases hlt : k < n
    · obtain ⟨b, off, rfl, hc1⟩ := (hs.below hbr).int (i := k) hlt
      obtain ⟨b', off', rfl, hc2⟩ := (ht.below hbr).int (i := k) hlt
      by_cases heq : l.getD k 0 = l'.getD k 0
      · have HN : Hid (l.take (k + 1) = l'.take (k + 1)) := Lib.hid (take_eq_step HE.out (by have := HL.out; omega) (by have := HL'.out; omega) heq)
        rw [heq] at hc1
        clear heq
        generalize l'.getD k 0 = z at *
        have hz : (z != z) = false := by simp
        go_wp2_with fail
        go_quiet (fail)
        go_wp2
        go_roundw
        case rel => exact ⟨k + 1, by omega, by go_num, below_drewN hbr _, HN⟩
        case measure => simp [intOf]; omega
      · have HF : Hid (decide (l = l') = false) := Lib.hid (decide_eq_false (ne_at heq))
        generalize l'.getD k 0 = z at *
        generalize l.getD k 0 = y at *
        have hz : (y != z) = true := by rw [bne_iff_ne]; exact heq
        clear heq
        go_wp2_with fail
        go_quiet (fail)
        go_wp2
        go_ret
        exact ⟨ret_bool HF.out.symm, below_drewN hbr _⟩
    · obtain rfl : k = n := by omega
      have HF : Hid (decide (l = l') = true) := Lib.hid (decide_eq_true (by
        have h := HE.out
        rwa [List.take_of_length_le (by rw [HL.out]; exact Nat.le_refl _), List.take_of_length_le (by rw [HL'.out]; exact Nat.le_refl _)] at h))
      go_wp2_with fail
      go_ret
      exact ⟨ret_bool HF.out.symm, hbr⟩
end Go.Proofs.YtlfhcjhbnakamaaGreatDoor.Eqb
/-
  A put: the walk of Decode (PRINTED by mkst4.py).
-/
namespace Go.Proofs.YtlfhcjhbnakamaaGreatDoor.Sto
open Go.RowKit Go.Gh Go.Proofs.YtlfhcjhbnakamaaGreatDoor.Bits Go.Proofs.YtlfhcjhbnakamaaGreatDoor.Lab Go.Proofs.YtlfhcjhbnakamaaGreatDoor.Tk
set_option linter.unusedVariables false
set_option linter.unusedSimpArgs false
/-- What Decode tells. -/
def DeP (w : World) (r : Option (List Lb × Int × Int)) (e : Ending) (w' : World) : Prop := Below w.heap.size w w' ∧ match r with
  | none => e = .returned (.tuple #[.slice none 0 0, .agg #[.int .i64 0, .int .i64 0], .int .i64 4])
  | some p => ∃ v, e = .returned (.tuple #[v, .agg #[.int .i64 p.2.1, .int .i64 p.2.2], .int .i64 0]) ∧ Sp LbR 2 w' v p.1
theorem deP_none {w w' : World} {r : Option (List Lb × Int × Int)} {e : Ending} (hr : r = none) (hb : Below w.heap.size w w') (he : e = .returned (.tuple #[.slice none 0 0, .agg #[.int .i64 0, .int .i64 0], .int .i64 4])) : DeP w r e w' := by
  subst hr
  exact ⟨hb, he⟩
theorem deP_some {w w' : World} {r : Option (List Lb × Int × Int)} {e : Ending} {v : Value} {L : List Lb} {T V : Int} (hr : r = some (L, T, V)) (hb : Below w.heap.size w w') (he : e = .returned (.tuple #[v, .agg #[.int .i64 T, .int .i64 V], .int .i64 0])) (ho : Sp LbR 2 w' v L) : DeP w r e w' := by
  subst hr
  exact ⟨hb, v, he, ho⟩
/-- The loop's state behind k rounds: so many bytes taken, these two numbers read. -/
def Rd2 (l : List Int) (k off : Nat) (z0 z1 : Int) : Prop :=
  (k = 0 ∧ off = 0) ∨ (k = 1 ∧ ∃ u, takeS 0 0 l = (u, (off : Int), 0) ∧ z0 = zagI u) ∨
  (k = 2 ∧ ∃ (u u2 : Int) (p q : Nat), takeS 0 0 l = (u, (p : Int), 0) ∧ takeS 0 0 (l.drop p) = (u2, (q : Int), 0) ∧ off = p + q ∧ z0 = zagI u ∧ z1 = zagI u2)
theorem rd2_bad {l : List Int} {k off : Nat} {z0 z1 u x e : Int} (hk : k < 2) (h : Rd2 l k off z0 z1) (ht : takeS 0 0 (l.drop off) = (u, x, e)) (he : e ≠ 0) : decF l = none := by
  rcases h with ⟨rfl, rfl⟩ | ⟨rfl, u1, h1, -⟩ | ⟨rfl, -⟩
  · exact dec_1 (by simpa using ht) he
  · exact dec_2 h1 (by rw [Int.toNat_natCast]; exact ht) he
  · omega
theorem rd2_next {l : List Int} {k off y : Nat} {z0 z1 u : Int} (hk : k < 2) (h : Rd2 l k off z0 z1) (ht : takeS 0 0 (l.drop off) = (u, (y : Int), 0)) : Rd2 l (k + 1) (off + y) (if k = 0 then zagI u else z0) (if k = 0 then z1 else zagI u) := by
  rcases h with ⟨rfl, rfl⟩ | ⟨rfl, u1, h1, hz⟩ | ⟨rfl, -⟩
  · exact Or.inr (Or.inl ⟨rfl, u, by simpa using ht, by simp⟩)
  · exact Or.inr (Or.inr ⟨rfl, u1, u, off, y, h1, ht, rfl, by simp [hz], by simp⟩)
  · omega
theorem rd2_done {l : List Int} {k off : Nat} {z0 z1 : Int} (hk : ¬ k < 2) (h : Rd2 l k off z0 z1) : ∃ (u u2 : Int) (p q : Nat), takeS 0 0 l = (u, (p : Int), 0) ∧ takeS 0 0 (l.drop p) = (u2, (q : Int), 0) ∧ off = p + q ∧ z0 = zagI u ∧ z1 = zagI u2 := by
  rcases h with ⟨rfl, rfl⟩ | ⟨rfl, -⟩ | ⟨rfl, u, u2, p, q, h⟩
  · omega
  · omega
  · exact ⟨u, u2, p, q, h⟩
theorem rd2_dec {l : List Int} {u u2 : Int} {p q : Nat} (h1 : takeS 0 0 l = (u, (p : Int), 0)) (h2 : takeS 0 0 (l.drop p) = (u2, (q : Int), 0)) : decF l = match lbF (toBy (l.drop (p + q))) with | none => none | some L => if outT (zagI u) then none else some (L, zagI u, zagI u2) := by
  rw [dec_3 h1 (by rw [Int.toNat_natCast]; exact h2), Int.toNat_natCast, Int.toNat_natCast, List.drop_drop]
  cases lbF (toBy (l.drop (p + q))) <;> rfl
theorem run_from {P : Program} {W : World} {a : Act} {o : Oper} {t e : TypeId} {bytes n cap L : Nat} {ao : Option Addr} {x l : Operand} {k : IntKind} (el : Elem P t e 1 bytes) (ho : o.op = .slice t x (some l) none none) (hx : a.eval x = .slice ao n cap) (hl : a.eval l = .int k L) (h1 : L ≤ n) (hc : n ≤ cap) : (execOp a.eval o).run P W = .ok (.value (sliced ao L n cap 1)) W := by
  obtain ⟨e1, e2⟩ := elem_eq el
  refine exec_slice (L := L) (H := n) el ho hx ?_
  simp only [Option.map_some, Option.map_none, hl]
  have := run_slice_l W t ao n cap e1 k (L : Int) (by omega) (by omega)
  simpa using this
set_option maxHeartbeats 4000000 in
set_option maxRecDepth 100000 in
theorem decode_any (v : Value) (l : List Int) (w : World) (hv : Sl w 1 v l.length (l.map (Value.int .u8))) (hb : BytesL l) (hn : l.length ≤ 1048576) (hT : STab w) : Calls Tryz.prog 19 #[v] w (DeP w (decF l)) := by
  obtain ⟨ao, c, rfl, -, -, -⟩ := hv.shape
  obtain ⟨n, hln⟩ : ∃ n, l.length = n := ⟨_, rfl⟩
  rw [hln] at hv hn ⊢
  obtain ⟨wa, hwa, hbox, hba, hsa⟩ := box_smp w 0 0
  obtain ⟨wb, hwb⟩ : ∃ x, x = wa.alloc (Obj.cells #[.int .i64 0, .int .i64 0] 80) := ⟨_, rfl⟩
  have hbN : wb.heap[wa.heap.size]? = some (.cells #[.int .i64 0, .int .i64 0] 80 (0, 0)) := by rw [hwb]; exact heap_alloc_new wa _
  have hbb : Below wa.heap.size wa wb := by rw [hwb]; exact (Below.refl _ _).alloc (Nat.le_refl _) _
  have hbox2 := (hbb.block w.heap.size hsa).trans hbox
  have hwas : wa.heap.size = w.heap.size + 1 := by rw [hwa]; simp
  have HBW0 := Lib.hid (hba.trans (hbb.mono hba.size))
  have HV0 := Lib.hid hv
  have HVb := Lib.hid (hv.below HBW0.out)
  have HWW : Hid (wb = (w.alloc (Obj.cells #[.int .i64 0, .int .i64 0] 44)).alloc (Obj.cells #[.int .i64 0, .int .i64 0] 80)) := Lib.hid (by rw [hwb, hwa])
  rw [hwas] at hbN
  have HT := Lib.hid hT
  have HB := Lib.hid hb
  have HLN := Lib.hid hln
  clear hv hb hln hT hwa hwb hbox hba hbb hwas hsa
  go_enter Tryz.func19, Tryz.ntmps19
  go_upto_region 3 with (fail)
  rw [← HWW.out]
  obtain ⟨bx, hbx⟩ : ∃ bx, w.heap.size = bx := ⟨_, rfl⟩
  rw [hbx] at hbN hbox2 ⊢
  have HBX := Lib.hid hbx
  clear hbx
  go_wp2_with fail
  go_loopw [6, 17] (fun r i wr => ∃ (k off : Nat) (z0 z1 : Int) (ao' : Option Addr) (c' : Nat), k ≤ 2 ∧ off ≤ n ∧ i = .int .i64 k ∧ r = .slice ao' (n - off) c' ∧ Hid (Rd2 l k off z0 z1) ∧ Hid (Sl w 1 (.slice ao' (n - off) c') (n - off) ((l.drop off).map (Value.int .u8))) ∧ wr.heap[bx]? = some (.cells #[.int .i64 0, .int .i64 0] 44 (0, 0)) ∧ wr.heap[bx + 1]? = some (.cells #[.int .i64 z0, .int .i64 z1] 80 (0, 0)) ∧ Below w.heap.size w wr) (fun _ i _ => 2 - (intOf i).toNat)
  case atStart => exact ⟨0, 0, 0, 0, ao, c, by omega, by omega, rfl, rfl, Lib.hid (Or.inl ⟨rfl, rfl⟩), Lib.hid (by simpa using HV0.out), hbox2, hbN, HBW0.out⟩
  case round =>
    obtain ⟨k, off, z0, z1, ao', c', hk, hoff, rfl, rfl, HR, HS, hbox, hbN', hbel⟩ := hrel
    clear hbox2 hbN
    have HBL := Lib.hid hbel
    by_cases hlt : k < 2
    case neg =>
      obtain ⟨u, u2, p, q, ht1, ht2, rfl, rfl, rfl⟩ := rd2_done hlt HR.out
      obtain rfl : k = 2 := by omega
      have hta1 := take_all HB.out ht1
      have hta2 := take_all (bytes_drop HB.out p) ht2
      have HZB1 := Lib.hid (zag_bd hta1.1 hta1.2.1)
      have HZB2 := Lib.hid (zag_bd hta2.1 hta2.2.1)
      have hd3 := rd2_dec ht1 ht2
      have HEB : Hid (∀ L, lbF (toBy (l.drop (p + q))) = some L → encB (zagI u) (zagI u2) L = l) := Lib.hid (fun L h => enc_back HB.out ht1 (by rw [Int.toNat_natCast]; exact ht2) (by rw [Int.toNat_natCast, Int.toNat_natCast, List.drop_drop]; exact h))
      obtain ⟨l2, hl2⟩ : ∃ x, l.drop (p + q) = x := ⟨_, rfl⟩
      have HLL : Hid ((toBy l2).length ≤ 1048576) := Lib.hid (by rw [toBy_len, ← hl2, List.length_drop, HLN.out]; omega)
      have hsb := HS.out.below hbel
      rw [hl2] at hd3 HEB hsb
      have hcv := run_bytes (dst := 9) Tryz.underlying45 Tryz.underlying5 Tryz.underlying9 hsb
      rw [bstr_toBy] at hcv
      have hlr := lbread_any (toBy l2) wr HLL.out (HT.out.below hbel)
      have hbxl : bx < wr.heap.size := (Array.getElem?_eq_some_iff.1 hbox).1
      have hbnl : bx + 1 < wr.heap.size := (Array.getElem?_eq_some_iff.1 hbN').1
      clear ht1 ht2 hta1 hta2 hl2 hsb hlt HR
      obtain ⟨T, hTz⟩ : ∃ z, zagI u = z := ⟨_, rfl⟩
      obtain ⟨V, hVz⟩ : ∃ z, zagI u2 = z := ⟨_, rfl⟩
      rw [hTz] at hd3 HEB HZB1 hbN'
      rw [hVz] at hd3 HEB HZB2 hbN'
      clear hTz hVz
      cases hr : lbF (toBy l2) with
      | none =>
        rw [hr] at hd3 hlr
        have HD : Hid (decF l = none) := Lib.hid hd3
        have HLR := Lib.hid hlr
        clear hd3 hlr hr hbel
        go_upto_region 12 with (go_at_call 8; refine HLR.out.mono ?_; rintro e w3 ⟨hb3, rfl⟩; have hbox3 := (hb3.block bx hbxl).trans hbox; have hbN3 := (hb3.block _ hbnl).trans hbN'; have HB3 := Lib.hid (HBL.out.trans (hb3.mono HBL.out.size)); clear hb3)
        obtain ⟨⟨c0, c1⟩, -⟩ := bx2 hbN3
        obtain ⟨wx, hwx, hbx2, hbbx, -⟩ := box_smp w3 T V
        have h3l : bx < w3.heap.size := (Array.getElem?_eq_some_iff.1 hbox3).1
        go_upto_region 13 with (fail)
        rw [← hwx]
        have hboxx := (hbbx.block bx h3l).trans hbox3
        have HBW := Lib.hid (HB3.out.trans (hbbx.mono HB3.out.size))
        have hbxx : bx < wx.heap.size := (Array.getElem?_eq_some_iff.1 hboxx).1
        have hb2x : w3.heap.size < wx.heap.size := (Array.getElem?_eq_some_iff.1 hbx2).1
        have HT5 := Lib.hid (HT.out.below HBW.out)
        have HEN := Lib.hid (encode_any _ [] T V wx (Ow.nil (T := 72) (B := 0)).sp HT5.out HZB1.out.1 HZB1.out.2 HZB2.out.1 HZB2.out.2)
        obtain ⟨⟨y0, y1⟩, -⟩ := bx2 hbx2
        clear hwx hbbx hbox3 hbN3 hbN' hbox c0 c1
        go_upto_region 14 with (go_at_call 18; refine HEN.out.mono ?_; rintro e w5 ⟨hb5, v5, rfl, ho5⟩; have hbox5 := (hb5.block bx hbxx).trans hboxx; have hbx5 := (hb5.block _ hb2x).trans hbx2; have HB5 := Lib.hid (HBW.out.trans (hb5.mono HBW.out.size)); clear hb5)
        clear y0 y1 hbx5 hbx2 hboxx ho5
        have hR := st2 (.int .i64 0) (.int .i64 0) hbox5
        obtain ⟨⟨s0, s1⟩, -⟩ := bx2 hR
        obtain ⟨⟨d0, d1⟩, ⟨f0, f1⟩⟩ := bx2 hbox5
        clear hR
        clear hbox5
        go_wp2_with fail
        refine bodyPost_ret (v := .tuple #[.slice none 0 0, .agg #[.int .i64 0, .int .i64 0], .int .i64 4]) (by simp [results, Tryz.results19, go_sem, s0, s1]) rfl ?_
        exact deP_none HD.out ((HB5.out.setCell (p := ⟨bx, 0, none⟩) (Nat.le_of_eq HBX.out) _).setCell (p := ⟨bx, 1, none⟩) (Nat.le_of_eq HBX.out) _) rfl
      | some L =>
        rw [hr] at hd3 hlr
        have HLF := Lib.hid (lbF_spec hr).1
        have HE2 := Lib.hid (HEB.out L hr)
        have HDS := Lib.hid hd3
        have HLR := Lib.hid hlr
        clear hd3 hlr hr hbel
        go_upto_region 12 with (go_at_call 8; refine HLR.out.mono ?_; rintro e w3 ⟨hb3, v3, rfl, ho3⟩; have hbox3 := (hb3.block bx hbxl).trans hbox; have hbN3 := (hb3.block _ hbnl).trans hbN'; have HB3 := Lib.hid (HBL.out.trans (hb3.mono HBL.out.size)); have HO3 := Lib.hid ho3; clear hb3 ho3)
        obtain ⟨⟨c0, c1⟩, -⟩ := bx2 hbN3
        obtain ⟨wx, hwx, hbx2, hbbx, -⟩ := box_smp w3 T V
        have h3l : bx < w3.heap.size := (Array.getElem?_eq_some_iff.1 hbox3).1
        go_upto_region 13 with (fail)
        rw [← hwx]
        have hboxx := (hbbx.block bx h3l).trans hbox3
        have HBW := Lib.hid (HB3.out.trans (hbbx.mono HB3.out.size))
        have hbxx : bx < wx.heap.size := (Array.getElem?_eq_some_iff.1 hboxx).1
        have hb2x : w3.heap.size < wx.heap.size := (Array.getElem?_eq_some_iff.1 hbx2).1
        have HT5 := Lib.hid (HT.out.below HBW.out)
        have HOx := Lib.hid (HO3.out.below lbR_mono hbbx)
        have hen := encode_any _ L T V wx HOx.out.sp HT5.out HZB1.out.1 HZB1.out.2 HZB2.out.1 HZB2.out.2
        unfold EnP at hen
        obtain ⟨⟨y0, y1⟩, -⟩ := bx2 hbx2
        clear hwx hbbx hbox3 hbN3 hbN' hbox c0 c1
        by_cases ho : outT T
        · have HD : Hid (decF l = none) := Lib.hid (by have := HDS.out; rw [this]; exact if_pos ho)
          have hpf : putF L T = 6 := by unfold putF; rw [if_neg (by rw [HLF.out]; simp), if_pos ho]
          rw [hpf] at hen
          have HEN := Lib.hid hen
          clear hpf hen ho
          go_upto_region 14 with (go_at_call 18; refine HEN.out.mono ?_; rintro e w5 ⟨hb5, v5, rfl, ho5⟩; have hbox5 := (hb5.block bx hbxx).trans hboxx; have hbx5 := (hb5.block _ hb2x).trans hbx2; have HB5 := Lib.hid (HBW.out.trans (hb5.mono HBW.out.size)); clear hb5)
          clear y0 y1 hbx5 hbx2 hboxx ho5
          have hR := st2 (.int .i64 0) (.int .i64 0) hbox5
          obtain ⟨⟨s0, s1⟩, -⟩ := bx2 hR
          obtain ⟨⟨d0, d1⟩, ⟨f0, f1⟩⟩ := bx2 hbox5
          clear hR
          clear hbox5
          go_wp2_with fail
          refine bodyPost_ret (v := .tuple #[.slice none 0 0, .agg #[.int .i64 0, .int .i64 0], .int .i64 4]) (by simp [results, Tryz.results19, go_sem, s0, s1]) rfl ?_
          exact deP_none HD.out ((HB5.out.setCell (p := ⟨bx, 0, none⟩) (Nat.le_of_eq HBX.out) _).setCell (p := ⟨bx, 1, none⟩) (Nat.le_of_eq HBX.out) _) rfl
        · have HD : Hid (decF l = some (L, T, V)) := Lib.hid (by have := HDS.out; rw [this]; exact if_neg ho)
          have hpf : putF L T = 0 := by unfold putF; rw [if_neg (by rw [HLF.out]; simp), if_neg ho]
          have hen2 : encR L T V = l := by unfold encR; rw [if_pos hpf]; exact HE2.out
          rw [hpf, hen2] at hen
          have HEN := Lib.hid hen
          clear hpf hen hen2 ho
          go_upto_region 14 with (go_at_call 18; refine HEN.out.mono ?_; rintro e w5 ⟨hb5, v5, rfl, ho5⟩; have hbox5 := (hb5.block bx hbxx).trans hboxx; have hbx5 := (hb5.block _ hb2x).trans hbx2; have HB5 := Lib.hid (HBW.out.trans (hb5.mono HBW.out.size)); have HO5 := Lib.hid (HOx.out.below lbR_mono hb5); clear hb5)
          have h := Eqb.eqb_any v5 (.slice ao n c) l.length n l l w5 (own_sl ho5) (HV0.out.below HB5.out) rfl HLN.out
          rw [decide_eq_true rfl] at h
          have HQ := Lib.hid h
          have hb5l : bx < w5.heap.size := (Array.getElem?_eq_some_iff.1 hbox5).1
          have hb5m : w3.heap.size < w5.heap.size := (Array.getElem?_eq_some_iff.1 hbx5).1
          clear y0 y1 hbx2 hboxx ho5 h
          go_upto_region 16 with (go_at_call 48; refine HQ.out.mono ?_; rintro e w6 ⟨rfl, hb6⟩; have hbox6 := (hb6.block bx hb5l).trans hbox5; have hbx6 := (hb6.block _ hb5m).trans hbx5; have HO6 := Lib.hid (HO5.out.below lbR_mono hb6); have HB6 := Lib.hid (HB5.out.trans (hb6.mono HB5.out.size)); clear hb6)
          obtain ⟨⟨y0, y1⟩, -⟩ := bx2 hbx6
          have hR := st2 (.int .i64 T) (.int .i64 V) hbox6
          obtain ⟨⟨s0, s1⟩, -⟩ := bx2 hR
          obtain ⟨⟨d0, d1⟩, ⟨f0, f1⟩⟩ := bx2 hbox6
          clear hR hbox5 hbx5 hbox6 hbx6
          refine wp_region_noPanic ?_
          go_region
          refine NoPanic.normal ?_
          go_wp2_with fail
          refine bodyPost_ret (v := .tuple #[v3, .agg #[.int .i64 T, .int .i64 V], .int .i64 0]) (by simp [results, Tryz.results19, go_sem, s0, s1]) rfl ?_
          exact deP_some HD.out ((HB6.out.setCell (p := ⟨bx, 0, none⟩) (Nat.le_of_eq HBX.out) _).setCell (p := ⟨bx, 1, none⟩) (Nat.le_of_eq HBX.out) _).drew rfl ((ow_set2 HO6.out hbxl).below lbR_mono ((Below.refl _ _).drew)).sp
    have HBD : Hid (BytesL (l.drop off)) := Lib.hid (bytes_drop HB.out off)
    obtain ⟨T1, hT1⟩ : ∃ T, takeS 0 0 (l.drop off) = T := ⟨_, rfl⟩
    obtain ⟨u, y, e⟩ := T1
    have h := take_any _ _ _ wr (HS.out.below hbel) (bytesL_wf HBD.out)
    rw [hT1] at h
    unfold ret3 at h
    have HC := Lib.hid h
    have HT1 := Lib.hid hT1
    clear h hT1 hbel
    go_upto_region 7 with (go_at_call 46; refine HC.out.mono ?_; rintro ee w1 ⟨rfl, rfl⟩)
    by_cases he : e = 0
    case neg =>
      have HD : Hid (decF l = none) := Lib.hid (rd2_bad hlt HR.out HT1.out he)
      have t1 : (e != 0) = true := by rw [bne_iff_ne]; exact he
      clear he
      have hR := st2 (.int .i64 0) (.int .i64 0) hbox
      obtain ⟨⟨s0, s1⟩, -⟩ := bx2 hR
      obtain ⟨⟨d0, d1⟩, ⟨f0, f1⟩⟩ := bx2 hbox
      clear hR hbox hbN'
      go_wp2_with fail
      refine bodyPost_ret (v := .tuple #[.slice none 0 0, .agg #[.int .i64 0, .int .i64 0], .int .i64 4]) (by simp [results, Tryz.results19, go_sem, s0, s1]) rfl ?_
      exact deP_none HD.out ((HBL.out.setCell (p := ⟨bx, 0, none⟩) (Nat.le_of_eq HBX.out) _).setCell (p := ⟨bx, 1, none⟩) (Nat.le_of_eq HBX.out) _) rfl
    subst he
    have hta := take_all HBD.out HT1.out
    have HU : Hid (0 ≤ u ∧ u < 18446744073709551616) := Lib.hid ⟨hta.1, hta.2.1⟩
    have hk0 := hta.2.2.1
    have hkl := hta.2.2.2.1
    obtain ⟨y', rfl⟩ : ∃ q : Nat, y = q := ⟨y.toNat, by omega⟩
    rw [List.length_drop, HLN.out] at hkl
    have hyn : off + y' ≤ n := by omega
    have HN2 := Lib.hid (rd2_next hlt HR.out HT1.out)
    have HZ := Lib.hid (fun W => zag_any u HU.out.1 HU.out.2 W)
    have HSL := Lib.hid (sl_sliced HS.out (show y' ≤ n - off by omega) (Nat.le_refl _))
    have hnc : n - off ≤ c' := by obtain ⟨_, _, he, h, _⟩ := HS.out; simp at he; omega
    have hy1 : y' ≤ n - off := by omega
    clear hta hk0 hkl hoff
    obtain ⟨⟨d0, d1⟩, ⟨f0, f1⟩⟩ := bx2 hbN'
    obtain rfl | rfl : k = 0 ∨ k = 1 := by omega
    · go_upto_region 9 with (fail)
      have x0 : wr.drew.cell? ⟨bx + 1, 0, none⟩ = some (.int .i64 z0) := d0
      have g0 : wr.drew.frozen? ⟨bx + 1, 0, none⟩ = false := f0
      refine wp_region_noPanic ?_
      refine wp_region_held_drew (S := fun _ => True) (by kernel_rfl) True.intro (fun hHeld => ?_)
      refine wpAnyH_take (i := 0) (v := ?v0_1) rfl (by kernel_rfl) (by kernel_rfl) (by kernel_rfl) (fun _ _ _ h => h) (Or.inl ⟨by rfl, ?hy0_1⟩) True.intro ?rest0_1
      case hy0_1 => (intro w hSw; (try dsimp only at hSw); go_simp; (try with_reducible rfl))
      case rest0_1 =>
      try simp only [Act.put, List.setIfInBounds_toArray, List.set_cons_zero, List.set_cons_succ, List.getElem_toArray, List.getElem_cons_succ, List.getElem_cons_zero]
      refine wpAnyH_take (i := 1) (v := ?v1_2) rfl (by kernel_rfl) (by kernel_rfl) (by kernel_rfl) (fun _ _ _ h => h) (Or.inl ⟨by rfl, ?hy1_2⟩) True.intro ?rest1_2
      case hy1_2 => (intro w hSw; (try dsimp only at hSw); go_simp; (try with_reducible rfl))
      case rest1_2 =>
      try simp only [Act.put, List.setIfInBounds_toArray, List.set_cons_zero, List.set_cons_succ, List.getElem_toArray, List.getElem_cons_succ, List.getElem_cons_zero]
      refine wpAnyH_take (i := 3) (v := ?v3_3) rfl (by kernel_rfl) (by kernel_rfl) (by kernel_rfl) (fun _ _ _ h => h) (Or.inl ⟨by rfl, ?hy3_3⟩) True.intro ?rest3_3
      case hy3_3 => (intro w hSw; (try dsimp only at hSw); go_simp; (try with_reducible rfl))
      case rest3_3 =>
      try simp only [Act.put, List.setIfInBounds_toArray, List.set_cons_zero, List.set_cons_succ, List.getElem_toArray, List.getElem_cons_succ, List.getElem_cons_zero]
      refine wpAnyH_take (i := 4) (v := ?v4_4) rfl (by kernel_rfl) (by kernel_rfl) (by kernel_rfl) (fun _ _ _ h => h) (Or.inl ⟨by rfl, ?hy4_4⟩) True.intro ?rest4_4
      case hy4_4 => (intro w hSw; (try dsimp only at hSw); go_simp; (try with_reducible rfl))
      case rest4_4 =>
      try simp only [Act.put, List.setIfInBounds_toArray, List.set_cons_zero, List.set_cons_succ, List.getElem_toArray, List.getElem_cons_succ, List.getElem_cons_zero]
      refine wpAnyH_take (i := 5) (v := sliced ao' y' (n - off) c' 1) rfl (by kernel_rfl) (by kernel_rfl) (by kernel_rfl) (fun _ _ _ h => h) (Or.inl ⟨by rfl, ?hy5_5⟩) True.intro ?rest5_5
      case hy5_5 => (intro w _; refine run_from (L := y') (x := .tmp 32) (l := .tmp 33) (k := .i64) elU8 ?_ ?_ ?_ hy1 hnc <;> rfl)
      case rest5_5 =>
      try simp only [Act.put, List.setIfInBounds_toArray, List.set_cons_zero, List.set_cons_succ, List.getElem_toArray, List.getElem_cons_succ, List.getElem_cons_zero]
      refine wpAnyH_ready (rs := [2]) (by kernel_rfl) (by simp) ?_
      refine AllReadyH.cons rfl (fun K hK => ?_) AllReadyH.nil
      go_simp
      refine (HZ.out _).mono ?_
      rintro ee wz ⟨rfl, rfl⟩
      refine hK.out _ _ True.intro (fun hHeld2 => ?_)
      clear hK K
      try simp only [Act.put, List.setIfInBounds_toArray, List.set_cons_zero, List.set_cons_succ, List.getElem_toArray, List.getElem_cons_succ, List.getElem_cons_zero]
      refine wpAnyH_take (i := 6) (v := ?v6_6) rfl (by kernel_rfl) (by kernel_rfl) (by kernel_rfl) (fun _ _ _ h => h) (Or.inl ⟨by rfl, ?hy6_6⟩) True.intro ?rest6_6
      case hy6_6 => (intro w hSw; (try dsimp only at hSw); go_simp; (try with_reducible rfl))
      case rest6_6 =>
      try simp only [Act.put, List.setIfInBounds_toArray, List.set_cons_zero, List.set_cons_succ, List.getElem_toArray, List.getElem_cons_succ, List.getElem_cons_zero]
      refine wpAnyH_ready (rs := [7]) (by kernel_rfl) (by simp) ?_
      refine AllReadyH.cons rfl (fun K hK => ?_) AllReadyH.nil
      go_simp
      refine hK.out _ _ True.intro (fun hHeld2 => ?_)
      clear hK K
      try simp only [Act.put, List.setIfInBounds_toArray, List.set_cons_zero, List.set_cons_succ, List.getElem_toArray, List.getElem_cons_succ, List.getElem_cons_zero]
      refine wpAnyH_take (i := 8) (v := ?v8_7) rfl (by kernel_rfl) (by kernel_rfl) (by kernel_rfl) (fun _ _ _ h => h) (Or.inl ⟨by rfl, ?hy8_7⟩) True.intro ?rest8_7
      case hy8_7 => (intro w hSw; (try dsimp only at hSw); go_simp; (try with_reducible rfl))
      case rest8_7 =>
      try simp only [Act.put, List.setIfInBounds_toArray, List.set_cons_zero, List.set_cons_succ, List.getElem_toArray, List.getElem_cons_succ, List.getElem_cons_zero]
      refine wpAnyH_done (by kernel_rfl) ?_ _
      refine NoPanic.normal ?_
      go_wp2_with fail
      have hw := row_setCell 0 (.int .i64 (zagI u)) hbN'
      have hs3 := HSL.out
      unfold sliced at hs3
      simp only [Nat.mul_one] at hs3
      rw [← List.map_drop, List.drop_drop, List.take_of_length_le (by rw [List.length_map, List.length_drop, HLN.out]; omega), Nat.sub_sub] at hs3
      have hn2 := HN2.out
      refine ⟨⟨1, off + y', (zagI u), z1, _, _, by omega, hyn, rfl, by rw [Nat.sub_sub], Lib.hid hn2, Lib.hid hs3, ?_, ?_, ?_⟩, by simp [intOf]⟩
      · exact (((Below.refl (bx + 1) wr).setCell (p := ⟨bx + 1, 0, none⟩) (Nat.le_refl _) (.int .i64 (zagI u))).block bx (by omega)).trans hbox
      · have h := hw
        simp at h
        exact h
      · exact (HBL.out.setCell (p := ⟨bx + 1, 0, none⟩) (by have := HBX.out; show w.heap.size ≤ bx + 1; omega) _).drew
    · go_upto_region 9 with (fail)
      have x0 : wr.drew.cell? ⟨bx + 1, 1, none⟩ = some (.int .i64 z1) := d1
      have g0 : wr.drew.frozen? ⟨bx + 1, 1, none⟩ = false := f1
      refine wp_region_noPanic ?_
      refine wp_region_held_drew (S := fun _ => True) (by kernel_rfl) True.intro (fun hHeld => ?_)
      refine wpAnyH_take (i := 0) (v := ?v0_8) rfl (by kernel_rfl) (by kernel_rfl) (by kernel_rfl) (fun _ _ _ h => h) (Or.inl ⟨by rfl, ?hy0_8⟩) True.intro ?rest0_8
      case hy0_8 => (intro w hSw; (try dsimp only at hSw); go_simp; (try with_reducible rfl))
      case rest0_8 =>
      try simp only [Act.put, List.setIfInBounds_toArray, List.set_cons_zero, List.set_cons_succ, List.getElem_toArray, List.getElem_cons_succ, List.getElem_cons_zero]
      refine wpAnyH_take (i := 1) (v := ?v1_9) rfl (by kernel_rfl) (by kernel_rfl) (by kernel_rfl) (fun _ _ _ h => h) (Or.inl ⟨by rfl, ?hy1_9⟩) True.intro ?rest1_9
      case hy1_9 => (intro w hSw; (try dsimp only at hSw); go_simp; (try with_reducible rfl))
      case rest1_9 =>
      try simp only [Act.put, List.setIfInBounds_toArray, List.set_cons_zero, List.set_cons_succ, List.getElem_toArray, List.getElem_cons_succ, List.getElem_cons_zero]
      refine wpAnyH_take (i := 3) (v := ?v3_10) rfl (by kernel_rfl) (by kernel_rfl) (by kernel_rfl) (fun _ _ _ h => h) (Or.inl ⟨by rfl, ?hy3_10⟩) True.intro ?rest3_10
      case hy3_10 => (intro w hSw; (try dsimp only at hSw); go_simp; (try with_reducible rfl))
      case rest3_10 =>
      try simp only [Act.put, List.setIfInBounds_toArray, List.set_cons_zero, List.set_cons_succ, List.getElem_toArray, List.getElem_cons_succ, List.getElem_cons_zero]
      refine wpAnyH_take (i := 4) (v := ?v4_11) rfl (by kernel_rfl) (by kernel_rfl) (by kernel_rfl) (fun _ _ _ h => h) (Or.inl ⟨by rfl, ?hy4_11⟩) True.intro ?rest4_11
      case hy4_11 => (intro w hSw; (try dsimp only at hSw); go_simp; (try with_reducible rfl))
      case rest4_11 =>
      try simp only [Act.put, List.setIfInBounds_toArray, List.set_cons_zero, List.set_cons_succ, List.getElem_toArray, List.getElem_cons_succ, List.getElem_cons_zero]
      refine wpAnyH_take (i := 5) (v := sliced ao' y' (n - off) c' 1) rfl (by kernel_rfl) (by kernel_rfl) (by kernel_rfl) (fun _ _ _ h => h) (Or.inl ⟨by rfl, ?hy5_12⟩) True.intro ?rest5_12
      case hy5_12 => (intro w _; refine run_from (L := y') (x := .tmp 32) (l := .tmp 33) (k := .i64) elU8 ?_ ?_ ?_ hy1 hnc <;> rfl)
      case rest5_12 =>
      try simp only [Act.put, List.setIfInBounds_toArray, List.set_cons_zero, List.set_cons_succ, List.getElem_toArray, List.getElem_cons_succ, List.getElem_cons_zero]
      refine wpAnyH_ready (rs := [2]) (by kernel_rfl) (by simp) ?_
      refine AllReadyH.cons rfl (fun K hK => ?_) AllReadyH.nil
      go_simp
      refine (HZ.out _).mono ?_
      rintro ee wz ⟨rfl, rfl⟩
      refine hK.out _ _ True.intro (fun hHeld2 => ?_)
      clear hK K
      try simp only [Act.put, List.setIfInBounds_toArray, List.set_cons_zero, List.set_cons_succ, List.getElem_toArray, List.getElem_cons_succ, List.getElem_cons_zero]
      refine wpAnyH_take (i := 6) (v := ?v6_13) rfl (by kernel_rfl) (by kernel_rfl) (by kernel_rfl) (fun _ _ _ h => h) (Or.inl ⟨by rfl, ?hy6_13⟩) True.intro ?rest6_13
      case hy6_13 => (intro w hSw; (try dsimp only at hSw); go_simp; (try with_reducible rfl))
      case rest6_13 =>
      try simp only [Act.put, List.setIfInBounds_toArray, List.set_cons_zero, List.set_cons_succ, List.getElem_toArray, List.getElem_cons_succ, List.getElem_cons_zero]
      refine wpAnyH_ready (rs := [7]) (by kernel_rfl) (by simp) ?_
      refine AllReadyH.cons rfl (fun K hK => ?_) AllReadyH.nil
      go_simp
      refine hK.out _ _ True.intro (fun hHeld2 => ?_)
      clear hK K
      try simp only [Act.put, List.setIfInBounds_toArray, List.set_cons_zero, List.set_cons_succ, List.getElem_toArray, List.getElem_cons_succ, List.getElem_cons_zero]
      refine wpAnyH_take (i := 8) (v := ?v8_14) rfl (by kernel_rfl) (by kernel_rfl) (by kernel_rfl) (fun _ _ _ h => h) (Or.inl ⟨by rfl, ?hy8_14⟩) True.intro ?rest8_14
      case hy8_14 => (intro w hSw; (try dsimp only at hSw); go_simp; (try with_reducible rfl))
      case rest8_14 =>
      try simp only [Act.put, List.setIfInBounds_toArray, List.set_cons_zero, List.set_cons_succ, List.getElem_toArray, List.getElem_cons_succ, List.getElem_cons_zero]
      refine wpAnyH_done (by kernel_rfl) ?_ _
      refine NoPanic.normal ?_
      go_wp2_with fail
      have hw := row_setCell 1 (.int .i64 (zagI u)) hbN'
      have hs3 := HSL.out
      unfold sliced at hs3
      simp only [Nat.mul_one] at hs3
      rw [← List.map_drop, List.drop_drop, List.take_of_length_le (by rw [List.length_map, List.length_drop, HLN.out]; omega), Nat.sub_sub] at hs3
      have hn2 := HN2.out
      refine ⟨⟨2, off + y', z0, (zagI u), _, _, by omega, hyn, rfl, by rw [Nat.sub_sub], Lib.hid hn2, Lib.hid hs3, ?_, ?_, ?_⟩, by simp [intOf]⟩
      · exact (((Below.refl (bx + 1) wr).setCell (p := ⟨bx + 1, 1, none⟩) (Nat.le_refl _) (.int .i64 (zagI u))).block bx (by omega)).trans hbox
      · have h := hw
        simp at h
        exact h
      · exact (HBL.out.setCell (p := ⟨bx + 1, 1, none⟩) (by have := HBX.out; show w.heap.size ≤ bx + 1; omega) _).drew
end Go.Proofs.YtlfhcjhbnakamaaGreatDoor.Sto
/-
  Two structs whose fields are all int64, held against each other.
-/
namespace Go.Gh
open Go.RowKit
set_option linter.unusedVariables false

/-- A struct type of k int64 fields, compared field by field. -/
def ints64 (P : Program) (t : TypeId) (k : Nat) : Bool :=
  (match P.underlying t with
  | some (.struct fs) => fs.size == k && (List.range k).all fun j => match fs[j]? with
    | some f => f.name != "_" && f.offset == j && (match P.underlying f.type with | some (.int .i64) => true | _ => false)
    | none => false
  | _ => false) && !P.stoodInHeld t && !P.eqGuardType P.depth t
theorem ints64_of {P : Program} {t : TypeId} {k : Nat} (h : ints64 P t k = true) : ∃ fs : Array Field, P.underlying t = some (.struct fs) ∧ fs.size = k ∧ P.stoodInHeld t = false ∧ P.eqGuardType P.depth t = false ∧
    ∀ (j : Nat) (f : Field), fs[j]? = some f → f.name ≠ "_" ∧ f.offset = j ∧ P.underlying f.type = some (.int .i64) := by
  unfold ints64 at h
  rw [Bool.and_eq_true, Bool.and_eq_true] at h
  obtain ⟨⟨h1, h2⟩, h3⟩ := h
  split at h1
  · rename_i fs hu
    rw [Bool.and_eq_true] at h1
    refine ⟨fs, hu, by simpa using h1.1, by simpa using h2, by simpa using h3, fun j f hj => ?_⟩
    have hk : fs.size = k := by simpa using h1.1
    have hjl : j < k := by rw [← hk]; exact (Array.getElem?_eq_some_iff.1 hj).1
    have := List.all_eq_true.1 h1.2 j (List.mem_range.2 hjl)
    rw [hj] at this
    simp only [Bool.and_eq_true] at this
    refine ⟨by simpa using this.1.1, by simpa using this.1.2, ?_⟩
    have h4 := this.2
    split at h4
    · assumption
    · simp at h4
  · simp at h1
theorem run_part_int {P : Program} {w : World} {t : TypeId} (hu : P.underlying t = some (.int .i64)) {xs : Array Value} {off : Nat} {v : Value} (hx : xs[off]? = some v) : (part t xs off).run P w = .ok v w := by
  simp [part, isAgg, run_underlying hu, hx]
theorem run_eqFields_ints {P : Program} {w : World} {d : Nat} {l m : List Int} : ∀ (fs : List Field) (j : Nat), (∀ (i : Nat) (f : Field), fs[i]? = some f → f.name ≠ "_" ∧ f.offset = j + i ∧ P.underlying f.type = some (.int .i64)) →
    l.length = j + fs.length → m.length = j + fs.length → (Op.eqFields (d + 1) (l.map (Value.int .i64)).toArray (m.map (Value.int .i64)).toArray fs).run P w = .ok (decide (l.drop j = m.drop j)) w
  | [], j, h, hl, hm => by
    simp only [List.length_nil, Nat.add_zero] at hl hm
    rw [List.drop_of_length_le (by omega), List.drop_of_length_le (by omega)]
    simp [Op.eqFields]
  | f :: fs, j, h, hl, hm => by
    obtain ⟨hn, ho, hu⟩ := h 0 f rfl
    rw [Nat.add_zero] at ho
    rw [List.length_cons] at hl hm
    have jl : j < l.length := by omega
    have jm : j < m.length := by omega
    have p1 : (part f.type (l.map (Value.int .i64)).toArray f.offset).run P w = .ok (.int .i64 l[j]) w := run_part_int hu (by rw [ho]; simp [jl])
    have p2 : (part f.type (m.map (Value.int .i64)).toArray f.offset).run P w = .ok (.int .i64 m[j]) w := run_part_int hu (by rw [ho]; simp [jm])
    have ih := run_eqFields_ints (P := P) (w := w) (d := d) (l := l) (m := m) fs (j + 1) (fun i g hg => by have := h (i + 1) g hg; rw [show j + 1 + i = j + (i + 1) from by omega]; exact this) (by omega) (by omega)
    simp only [Op.eqFields, hn, ne_eq, not_false_eq_true, if_true, Sem.run_bind, p1, p2, Result.andThen_ok, run_equalIn_int w d f.type .i64 .i64 l[j] m[j] hu]
    rw [List.drop_eq_getElem_cons jl, List.drop_eq_getElem_cons jm]
    generalize l.drop (j + 1) = A at *
    generalize m.drop (j + 1) = B at *
    by_cases he : l[j] = m[j]
    · rw [he]
      simp only [beq_self_eq_true, Bool.not_true, Bool.false_eq_true, if_false, List.cons.injEq, true_and]
      exact ih
    · have : (l[j] == m[j]) = false := by simpa using he
      simp only [this, Bool.not_false, if_true, List.cons.injEq, he, false_and, decide_false]
      rfl
theorem run_equal_ints {P : Program} {w : World} {t : TypeId} {k : Nat} (ht : ints64 P t k = true) {l m : List Int} (hl : l.length = k) (hm : m.length = k) :
    (Op.equalIn 10000 t (.agg (l.map (Value.int .i64)).toArray) (.agg (m.map (Value.int .i64)).toArray)).run P w = .ok (decide (l = m)) w := by
  obtain ⟨fs, hu, hk, hs, _, hf⟩ := ints64_of ht
  have hfo : P.fieldsOf t = fs := by unfold Program.fieldsOf; rw [hu]
  rw [show (10000 : Nat) = 9999 + 1 from rfl, run_equalIn_struct w 9999 t _ _ (by rw [hfo]; exact hu) hs, hfo]
  have := run_eqFields_ints (P := P) (w := w) (d := 9998) (l := l) (m := m) fs.toList 0 (fun i f h => by rw [Nat.zero_add]; exact hf i f (by simpa using h)) (by simp; omega) (by simp; omega)
  simpa using this
theorem exec_neq_ints {P : Program} {ρ : Operand → Value} {o : Oper} {w : World} {t t' : TypeId} {x y : Operand} {k : Nat} (ho : o.op = .binOp .neq t x y t') (ht : ints64 P t k = true) {l m : List Int} (hl : l.length = k) (hm : m.length = k)
    (hx : ρ x = .agg (l.map (Value.int .i64)).toArray) (hy : ρ y = .agg (m.map (Value.int .i64)).toArray) : (execOp ρ o).run P w = .ok (.value (.bool (!decide (l = m)))) w := by
  obtain ⟨_, _, _, _, hg, _⟩ := ints64_of ht
  unfold execOp
  rw [ho]
  simp only [Sem.run_bind, hx, hy, run_eqGuard_agg w _ _ _ _ _ _ hg, Result.andThen_ok, run_neq_struct, run_equal_ints ht hl hm]
  rfl
theorem quiet_of_run {P : Program} {o : Oper} {a : Act} {C : World → Prop} {K : Act → Prop} (v : Value) (h : ∀ w, (execOp a.eval o).run P w = .ok (.value v) w) (hk : K (a.put o.dst v)) : o.quiet P a C K :=
  ⟨v, fun w _ => by unfold Oper.quietAt; rw [h w]; exact ⟨rfl, rfl⟩, hk⟩
/-- Two lists are alike up to k. -/
def sameUp (l m : List (List Int)) (k : Nat) : Prop := ∀ i, i < k → l.getD i [] = m.getD i []
theorem sameUp_succ {l m : List (List Int)} {k : Nat} (h : sameUp l m k) (hk : l.getD k [] = m.getD k []) : sameUp l m (k + 1) := by
  intro i hi
  rcases Nat.lt_or_eq_of_le (Nat.le_of_lt_succ hi) with h' | h'
  · exact h i h'
  · rw [h']; exact hk
theorem same_all {l m : List (List Int)} (hlen : l.length = m.length) (h : sameUp l m l.length) : l = m := by
  refine List.ext_getElem hlen fun i h1 h2 => ?_
  have := h i h1
  rwa [List.getD_eq_getElem?_getD, List.getD_eq_getElem?_getD, List.getElem?_eq_getElem h1, List.getElem?_eq_getElem h2] at this
end Go.Gh
