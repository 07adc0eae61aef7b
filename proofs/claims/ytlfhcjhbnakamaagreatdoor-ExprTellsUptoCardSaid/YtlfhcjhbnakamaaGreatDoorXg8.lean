/-
  Expressions: how many parts: the walks of count and sizeOf.
-/
import Derived.Test.YtlfhcjhbnakamaaGreatDoorXg4
import Derived.Test.YtlfhcjhbnakamaaGreatDoorXg7
import Derived.Shelf.Lay
import Derived.Shelf.LaySoft
import Derived.Shelf.LaysM
import Derived.Shelf.Strconv.Itoa4
import Derived.Test.YtlfhcjhbnakamaaGreatDoorProg
namespace Go.Proofs.YtlfhcjhbnakamaaGreatDoor.Exp
open Go.RowKit Go.Gh Go.Proofs.YtlfhcjhbnakamaaGreatDoor.Lab
set_option linter.unusedVariables false
set_option linter.unusedSimpArgs false
theorem box_ex (w : World) (u0 u1 u2 u3 u4 u5 : Value) : ∃ wa, wa = w.alloc (Obj.cells #[u0, u1, u2, u3, u4, u5] 38) ∧ wa.heap[w.heap.size]? = some (.cells #[u0, u1, u2, u3, u4, u5] 38 (0, 0)) ∧ Below w.heap.size w wa ∧ w.heap.size < wa.heap.size :=
  ⟨_, rfl, heap_alloc_new w _, (Below.refl _ _).alloc (Nat.le_refl _) _, by simp⟩
theorem six_of {c : List Value} (h : c.length = 6) : ∃ a0 a1 a2 a3 a4 a5, c = [a0, a1, a2, a3, a4, a5] := by
  match c, h with
  | [a0, a1, a2, a3, a4, a5], _ => exact ⟨a0, a1, a2, a3, a4, a5, rfl⟩
set_option maxHeartbeats 8000000 in
set_option maxRecDepth 100000 in
theorem count_any (d : Nat) : ∀ (x : Ex) (u0 u1 u2 u3 u4 u5 : Value) (w : World), ExD d w x [u0, u1, u2, u3, u4, u5] → szX x ≤ 1048576 → Calls Tryz.prog 40 #[.agg #[u0, u1, u2, u3, u4, u5]] w fun e w' => e = .returned (.int .i64 (szX x : Nat)) ∧ Below w.heap.size w w' := by
  induction d with
  | zero => intro x u0 u1 u2 u3 u4 u5 w h; exact h.elim
  | succ d ih =>
    intro x u0 u1 u2 u3 u4 u5 w h hz
    obtain ⟨vm, vb, vx, hc, -, -, hx, -⟩ := h
    obtain rfl : u5 = vx := by simp at hc; exact hc.2.2.2.2.2
    obtain ⟨L, hL⟩ : ∃ L, x.xs = L := ⟨_, rfl⟩
    rw [szX_eq, hL] at hz ⊢
    rw [hL] at hx
    obtain ⟨n, hn⟩ : ∃ n, L.length = n := ⟨_, rfl⟩
    obtain ⟨ao, cp, rfl, hnc, hcp⟩ := hx.shapeN hn
    have HN := Lib.hid hn
    have HX := Lib.hid hx
    have IH := Lib.hid ih
    obtain ⟨M, hM⟩ : ∃ M, 1 + szL L = M := ⟨_, rfl⟩
    rw [hM] at hz ⊢
    have HM := Lib.hid hM
    obtain ⟨wa, hwa, hbox, hba, hsa⟩ := box_ex w u0 u1 u2 u3 u4 (.slice ao n cp)
    have HWA := Lib.hid hwa
    have HBA := Lib.hid hba
    clear hc hL hn hx ih hM hwa hba hsa
    go_enter Tryz.func40, Tryz.ntmps40
    go_upto_region 1 with (fail)
    rw [← HWA.out]
    obtain ⟨⟨-, -, -, -, -, d5⟩, -⟩ := bx6 hbox
    obtain ⟨bx, hbx⟩ : ∃ bx, w.heap.size = bx := ⟨_, rfl⟩
    rw [hbx] at d5
    have hbl : bx < wa.heap.size := by rw [← hbx]; exact (Array.getElem?_eq_some_iff.1 hbox).1
    rw [hbx]
    have HB := Lib.hid hbx
    clear hbox hbx
    go_wp2_with fail
    go_loopw [3, 9] (fun s i wr => ∃ k m : Nat, k ≤ n ∧ s = .int .i64 m ∧ i = .int .i64 k ∧ Hid (m = 1 + szL (L.take k)) ∧ Hid (Below w.heap.size w wr)) (fun s i _ => n - (intOf i).toNat)
    case atStart => exact ⟨0, 1, Nat.zero_le _, rfl, rfl, Lib.hid (by rw [List.take_zero, szL_nil]), HBA⟩
    case round =>
      obtain ⟨k, m, hk, rfl, rfl, HK, HBR⟩ := hrel
      have hmM : m ≤ M := by rw [HK.out, ← HM.out]; have := szL_take_le L k; omega
      by_cases hlt : k < n
      case neg =>
        obtain rfl : k = n := by omega
        obtain rfl : m = M := by rw [HK.out, ← HM.out, List.take_of_length_le (Nat.le_of_eq HN.out)]
        go_wp2_with fail
        go_ret
        exact ⟨rfl, HBR.out⟩
      obtain ⟨y, hy⟩ : ∃ y, L[k]? = some y := ⟨_, List.getElem?_eq_getElem (by rw [HN.out]; exact hlt)⟩
      obtain ⟨b, off, cs, rfl, hy2, hl6, hck⟩ := (HX.out.below (exD_mono d) HBR.out).get hy
      obtain ⟨k0, k1, k2, am, lm, cm, ab, lb, cb, ax, lx, cx, rfl⟩ := exD_shape hy2
      have c0 := hck 0 _ rfl
      have c1 := hck 1 _ rfl
      have c2 := hck 2 _ rfl
      have c3 := hck 3 _ rfl
      have c4 := hck 4 _ rfl
      have c5 := hck 5 _ rfl
      rw [Nat.add_zero] at c0
      obtain ⟨q, hq⟩ : ∃ q, szX y = q := ⟨_, rfl⟩
      have hsum : m + q ≤ M := by
        have h1 := szL_take hy
        have h2 := szL_take_le L (k + 1)
        rw [HK.out, ← HM.out]
        omega
      have HNX : Hid (m + q = 1 + szL (L.take (k + 1))) := Lib.hid (by rw [HK.out, szL_take hy]; omega)
      obtain ⟨wb, hwb, -, hbb, -⟩ := box_ex wr (.int .i64 k0) (.int .i64 k1) (.int .i64 k2) (.slice am lm cm) (.slice ab lb cb) (.slice ax lx cx)
      have HBB := Lib.hid (HBR.out.trans (hbb.mono HBR.out.size))
      have HC := Lib.hid (IH.out y (.int .i64 k0) (.int .i64 k1) (.int .i64 k2) (.slice am lm cm) (.slice ab lb cb) (.slice ax lx cx) wb (exD_mono d _ _ _ _ hy2 hbb) (by omega))
      rw [hq] at HC
      rw [hwb] at HC HBB
      clear hck hy2 hl6 hy hq hwb hbb
      go_wp2_with fail
      refine HC.out.mono ?_
      rintro e w2 ⟨rfl, hb2⟩
      have HB2 := Lib.hid (HBB.out.trans (hb2.mono HBB.out.size))
      clear hb2
      go_wp2_with fail
      go_roundw
      case rel => exact ⟨k + 1, m + q, by omega, by go_num, by go_num, HNX, HB2⟩
      case measure => simp [intOf]; omega
set_option maxHeartbeats 8000000 in
set_option maxRecDepth 100000 in
theorem sizeof_any (d : Nat) : ∀ (x : Ex) (u0 u1 u2 u3 u4 u5 : Value) (w : World), ExD d w x [u0, u1, u2, u3, u4, u5] → szX x ≤ 1048576 → Calls Tryz.prog 38 #[.agg #[u0, u1, u2, u3, u4, u5]] w fun e w' => e = .returned (.int .i64 (szX x : Nat)) ∧ Below w.heap.size w w' := by
  induction d with
  | zero => intro x u0 u1 u2 u3 u4 u5 w h; exact h.elim
  | succ d ih =>
    intro x u0 u1 u2 u3 u4 u5 w h hz
    obtain ⟨vm, vb, vx, hc, -, -, hx, -⟩ := h
    obtain rfl : u5 = vx := by simp at hc; exact hc.2.2.2.2.2
    obtain ⟨L, hL⟩ : ∃ L, x.xs = L := ⟨_, rfl⟩
    rw [szX_eq, hL] at hz ⊢
    rw [hL] at hx
    obtain ⟨n, hn⟩ : ∃ n, L.length = n := ⟨_, rfl⟩
    obtain ⟨ao, cp, rfl, hnc, hcp⟩ := hx.shapeN hn
    have HN := Lib.hid hn
    have HX := Lib.hid hx
    have IH := Lib.hid ih
    obtain ⟨M, hM⟩ : ∃ M, 1 + szL L = M := ⟨_, rfl⟩
    rw [hM] at hz ⊢
    have HM := Lib.hid hM
    obtain ⟨wa, hwa, hbox, hba, hsa⟩ := box_ex w u0 u1 u2 u3 u4 (.slice ao n cp)
    have HWA := Lib.hid hwa
    have HBA := Lib.hid hba
    clear hc hL hn hx ih hM hwa hba hsa
    go_enter Tryz.func38, Tryz.ntmps38
    go_upto_region 1 with (fail)
    rw [← HWA.out]
    obtain ⟨⟨-, -, -, -, -, d5⟩, -⟩ := bx6 hbox
    obtain ⟨bx, hbx⟩ : ∃ bx, w.heap.size = bx := ⟨_, rfl⟩
    rw [hbx] at d5
    have hbl : bx < wa.heap.size := by rw [← hbx]; exact (Array.getElem?_eq_some_iff.1 hbox).1
    rw [hbx]
    have HB := Lib.hid hbx
    clear hbox hbx
    go_wp2_with fail
    go_loopw [3, 9] (fun s i wr => ∃ k m : Nat, k ≤ n ∧ s = .int .i64 m ∧ i = .int .i64 k ∧ Hid (m = 1 + szL (L.take k)) ∧ Hid (Below w.heap.size w wr)) (fun s i _ => n - (intOf i).toNat)
    case atStart => exact ⟨0, 1, Nat.zero_le _, rfl, rfl, Lib.hid (by rw [List.take_zero, szL_nil]), HBA⟩
    case round =>
      obtain ⟨k, m, hk, rfl, rfl, HK, HBR⟩ := hrel
      have hmM : m ≤ M := by rw [HK.out, ← HM.out]; have := szL_take_le L k; omega
      by_cases hlt : k < n
      case neg =>
        obtain rfl : k = n := by omega
        obtain rfl : m = M := by rw [HK.out, ← HM.out, List.take_of_length_le (Nat.le_of_eq HN.out)]
        go_wp2_with fail
        go_ret
        exact ⟨rfl, HBR.out⟩
      obtain ⟨y, hy⟩ : ∃ y, L[k]? = some y := ⟨_, List.getElem?_eq_getElem (by rw [HN.out]; exact hlt)⟩
      obtain ⟨b, off, cs, rfl, hy2, hl6, hck⟩ := (HX.out.below (exD_mono d) HBR.out).get hy
      obtain ⟨k0, k1, k2, am, lm, cm, ab, lb, cb, ax, lx, cx, rfl⟩ := exD_shape hy2
      have c0 := hck 0 _ rfl
      have c1 := hck 1 _ rfl
      have c2 := hck 2 _ rfl
      have c3 := hck 3 _ rfl
      have c4 := hck 4 _ rfl
      have c5 := hck 5 _ rfl
      rw [Nat.add_zero] at c0
      obtain ⟨q, hq⟩ : ∃ q, szX y = q := ⟨_, rfl⟩
      have hsum : m + q ≤ M := by
        have h1 := szL_take hy
        have h2 := szL_take_le L (k + 1)
        rw [HK.out, ← HM.out]
        omega
      have HNX : Hid (m + q = 1 + szL (L.take (k + 1))) := Lib.hid (by rw [HK.out, szL_take hy]; omega)
      obtain ⟨wb, hwb, -, hbb, -⟩ := box_ex wr (.int .i64 k0) (.int .i64 k1) (.int .i64 k2) (.slice am lm cm) (.slice ab lb cb) (.slice ax lx cx)
      have HBB := Lib.hid (HBR.out.trans (hbb.mono HBR.out.size))
      have HC := Lib.hid (IH.out y (.int .i64 k0) (.int .i64 k1) (.int .i64 k2) (.slice am lm cm) (.slice ab lb cb) (.slice ax lx cx) wb (exD_mono d _ _ _ _ hy2 hbb) (by omega))
      rw [hq] at HC
      rw [hwb] at HC HBB
      clear hck hy2 hl6 hy hq hwb hbb
      go_wp2_with fail
      refine HC.out.mono ?_
      rintro e w2 ⟨rfl, hb2⟩
      have HB2 := Lib.hid (HBB.out.trans (hb2.mono HBB.out.size))
      clear hb2
      go_wp2_with fail
      go_roundw
      case rel => exact ⟨k + 1, m + q, by omega, by go_num, by go_num, HNX, HB2⟩
      case measure => simp [intOf]; omega
end Go.Proofs.YtlfhcjhbnakamaaGreatDoor.Exp
/-
  Expressions: the walks of parts and check (PRINTED by mkex2.py).
-/
namespace Go.Proofs.YtlfhcjhbnakamaaGreatDoor.Exp
open Go.RowKit Go.Gh Go.Proofs.YtlfhcjhbnakamaaGreatDoor.Lab
set_option linter.unusedVariables false
set_option linter.unusedSimpArgs false
set_option maxHeartbeats 4000000 in
set_option maxRecDepth 100000 in
theorem parts_any (K : Int) (w : World) : Calls Tryz.prog 64 #[.int .i64 K] w fun e w' => e = .returned (.int .i64 (prtF K)) ∧ w = w' := by
  have h : K = 1 ∨ K = 2 ∨ K = 3 ∨ K = 4 ∨ K = 5 ∨ K = 6 ∨ K = 7 ∨ K = 8 ∨ (K < 1 ∨ 8 < K) := by omega
  rcases h with rfl | rfl | rfl | rfl | rfl | rfl | rfl | rfl | h
  case inr.inr.inr.inr.inr.inr.inr.inr =>
    have hp : prtF K = -1 := by unfold prtF; rw [if_neg (by omega), if_neg (by omega), if_neg (by omega)]
    have e1 : (K == 1) = false := by simp; omega
    have e2 : (K == 2) = false := by simp; omega
    have e3 : (K == 3) = false := by simp; omega
    have e4 : (K == 4) = false := by simp; omega
    have e5 : (K == 5) = false := by simp; omega
    have e6 : (K == 6) = false := by simp; omega
    have e7 : (K == 7) = false := by simp; omega
    have e8 : (K == 8) = false := by simp; omega
    rw [hp]
    clear h hp
    go_enter Tryz.func64, Tryz.ntmps64
    go_wp2_with fail
    go_ret
    exact ⟨rfl, rfl⟩
  all_goals
    go_enter Tryz.func64, Tryz.ntmps64
    go_wp2_with fail
    go_ret
    exact ⟨rfl, rfl⟩
def BadC (p K N W : Int) (lm lb lx : Nat) : Prop := p < 0 ∨ (lx : Int) ≠ p ∨ (K ≠ 1 ∧ N ≠ 0) ∨ (K ≠ 2 ∧ (W ≠ 0 ∨ 0 < lm)) ∨ (p ≠ 1 ∧ 0 < lb) ∨ (K = 2 ∧ (W < 1 ∨ 1099511627776 < W))
theorem badX_c (x : Ex) : badX x ↔ BadC (prtF x.kd) x.kd x.n x.wd x.ms.length x.bs.length x.xs.length := Iff.rfl
theorem badB {B : Bool} {x : Ex} (h : B = decide (badX x)) {p K N W : Int} {lm lb lx : Nat} (hp : prtF x.kd = p) (hK : x.kd = K) (hN : x.n = N) (hW : x.wd = W) (hm : x.ms.length = lm) (hb : x.bs.length = lb) (hx : x.xs.length = lx) : (B = true ↔ BadC p K N W lm lb lx) := by
  rw [h, decide_eq_true_iff, badX_c, hp, hK, hN, hW, hm, hb, hx]
theorem byL_take {L : List By} {k : Nat} {x : By} (h : L[k]? = some x) : byL (L.take (k + 1)) = byL (L.take k) ++ [⟨x, []⟩] := by
  unfold byL
  rw [List.take_add_one, h, List.map_append]
  rfl
theorem byL_len (L : List By) : (byL L).length = L.length := by unfold byL; rw [List.length_map]
set_option maxHeartbeats 16000000 in
set_option maxRecDepth 100000 in
theorem check_any (d : Nat) : ∀ (x : Ex) (u0 u1 u2 u3 u4 u5 : Value) (w : World), ExD d w x [u0, u1, u2, u3, u4, u5] → Calls Tryz.prog 41 #[.agg #[u0, u1, u2, u3, u4, u5]] w fun e w' => e = .returned (.int .i64 (chX x)) ∧ Below w.heap.size w w' := by
  induction d with
  | zero => intro x u0 u1 u2 u3 u4 u5 w h; exact h.elim
  | succ d ih =>
    intro x u0 u1 u2 u3 u4 u5 w h
    obtain ⟨vm, vb, vx, hc, hm, hb, hx, hbd, -⟩ := h
    simp only [List.cons.injEq, and_true] at hc
    obtain ⟨rfl, rfl, rfl, rfl, rfl, rfl⟩ := hc
    obtain ⟨lm, hlm⟩ : ∃ n, x.ms.length = n := ⟨_, rfl⟩
    obtain ⟨lb, hlb⟩ : ∃ n, x.bs.length = n := ⟨_, rfl⟩
    obtain ⟨lx, hlx⟩ : ∃ n, x.xs.length = n := ⟨_, rfl⟩
    obtain ⟨am, cm, rfl, hm1, hm2⟩ := hm.shapeN hlm
    obtain ⟨ab, cb, rfl, hb1, hb2⟩ := hb.shapeN hlb
    obtain ⟨ax, cx, rfl, hx1, hx2⟩ := hx.shapeN hlx
    have hF := chX_eq x
    obtain ⟨F, hF2⟩ : ∃ F, chX x = F := ⟨_, rfl⟩
    rw [hF2] at hF ⊢
    obtain ⟨K, hK⟩ : ∃ K, x.kd = K := ⟨_, rfl⟩
    obtain ⟨N, hN⟩ : ∃ K, x.n = K := ⟨_, rfl⟩
    obtain ⟨W, hW⟩ : ∃ K, x.wd = K := ⟨_, rfl⟩
    obtain ⟨p, hp⟩ : ∃ p, prtF x.kd = p := ⟨_, rfl⟩
    obtain ⟨B, hB⟩ : ∃ B, B = decide (badX x) := ⟨_, rfl⟩
    have HB := Lib.hid (badB hB hp hK hN hW hlm hlb hlx)
    have HF : Hid (F = if B = true then 1 else if matchF x.ms ≠ 0 then matchF x.ms else if labelF (byL x.bs) ≠ 0 then labelF (byL x.bs) else chL x.xs) := Lib.hid (by rw [hF, hB]; simp only [decide_eq_true_iff])
    rw [hK] at hp
    have HPA := Lib.hid (fun w => parts_any K w)
    rw [hp] at HPA
    rw [hK, hN, hW]
    obtain ⟨wa, hwa, hbox, hba, hsa⟩ := box_ex w (.int .i64 K) (.int .i64 N) (.int .i64 W) (.slice am lm cm) (.slice ab lb cb) (.slice ax lx cx)
    have HWA := Lib.hid hwa
    have HBA := Lib.hid hba
    have HM := Lib.hid hm
    have HBS := Lib.hid hb
    have HX := Lib.hid hx
    have HLB := Lib.hid hlb
    have HLX := Lib.hid hlx
    have IH := Lib.hid ih
    have HBD := Lib.hid hbd
    obtain ⟨E1, hE1⟩ : ∃ E, matchF x.ms = E := ⟨_, rfl⟩
    obtain ⟨E2, hE2⟩ : ∃ E, labelF (byL x.bs) = E := ⟨_, rfl⟩
    rw [hE1, hE2] at HF
    have HMC := Lib.hid (fun W (hb : Below w.heap.size w W) => mtcheck_any _ x.ms W (hm.below mtR_mono hb))
    rw [hE1] at HMC
    have HE2 := Lib.hid hE2
    obtain ⟨BS, hBS⟩ : ∃ E, x.bs = E := ⟨_, rfl⟩
    obtain ⟨XS, hXS⟩ : ∃ E, x.xs = E := ⟨_, rfl⟩
    rw [hBS] at HBS HLB HE2 HBD
    rw [hXS] at HX HLX HF
    clear hF hF2 hK hN hW hp hB hwa hba hsa hm hb hx hlm hlb hlx ih hbd hE1 hE2 hBS hXS
    go_enter Tryz.func41, Tryz.ntmps41
    go_upto_region 1 with (fail)
    rw [← HWA.out]
    obtain ⟨⟨d0, d1, d2, d3, d4, d5⟩, -⟩ := bx6 hbox
    obtain ⟨bx, hbx⟩ : ∃ bx, w.heap.size = bx := ⟨_, rfl⟩
    rw [hbx] at d0 d1 d2 d3 d4 d5 hbox ⊢
    have HBX := Lib.hid hbox
    have HBE := Lib.hid hbx
    clear hbox hbx
    go_upto_region 3 with (go_at_call 64; refine (HPA.out _).mono ?_; rintro e w2 ⟨rfl, rfl⟩)
    obtain ⟨A0, hA0⟩ : ∃ A, A = Value.agg #[.int .i64 K, .int .i64 N, .int .i64 W, .slice am lm cm, .slice ab lb cb, .slice ax lx cx] := ⟨_, rfl⟩
    rw [← hA0]
    clear hA0
    go_cut [3, 4, 75] (fun x y t wx => t = .bool B ∧ wx = wa)
    case first =>
      go_wp2_with fail
      all_goals
        go_meet
        refine ⟨congrArg Value.bool (Bool.eq_iff_iff.2 (Iff.trans ?_ HB.out.symm)), rfl⟩
        unfold BadC
        first
          | (simp only [decide_eq_true_iff]; omega)
          | (simp only [true_iff]; omega)
          | (simp only [Bool.false_eq_true, false_iff]; omega)
          | (simp only [Bool.or_eq_true, decide_eq_true_iff]; omega)
    obtain ⟨rfl, rfl⟩ := hcut
    obtain ⟨wa, rfl⟩ : ∃ x, x = wc := ⟨_, rfl⟩
    cases B with
    | true =>
      have hf : F = 1 := by rw [HF.out]; exact if_pos rfl
      subst hf
      go_wp2_with fail
      go_ret
      exact ⟨rfl, HBA.out⟩
    | false =>
    have HF1 : Hid (F = if E1 ≠ 0 then E1 else if E2 ≠ 0 then E2 else chL XS) := Lib.hid (by rw [HF.out]; exact if_neg (by decide))
    have hbl : bx < wa.heap.size := (Array.getElem?_eq_some_iff.1 HBX.out).1
    go_upto_region 6 with (go_at_call 54; refine (HMC.out _ HBA.out).mono ?_; rintro e w3 ⟨rfl, hb3⟩; have HBX3 := Lib.hid ((hb3.block bx hbl).trans HBX.out); have HB3 := Lib.hid (HBA.out.trans (hb3.mono HBA.out.size)); clear hb3)
    by_cases g1 : E1 = 0
    case neg =>
      have hf : F = E1 := by rw [HF1.out]; exact if_pos g1
      have t1 : (E1 != 0) = true := by rw [bne_iff_ne]; exact g1
      subst hf
      clear g1
      go_wp2_with fail
      go_ret
      exact ⟨rfl, HB3.out⟩
    subst g1
    have HF2 : Hid (F = if E2 ≠ 0 then E2 else chL XS) := Lib.hid (by rw [HF1.out]; exact if_neg (by decide))
    obtain ⟨⟨-, -, -, -, e4, -⟩, -⟩ := bx6 HBX3.out
    clear d0 d1 d2 d3 d4 d5
    have hbl3 : bx < w3.heap.size := (Array.getElem?_eq_some_iff.1 HBX3.out).1
    have hlb20 : lb ≤ 1048576 := by rw [← HLB.out]; exact HBD.out
    go_wp2_with fail
    go_loopw [6, 85] (fun u i wr => ∃ (k : Nat), k ≤ lb ∧ i = .int .i64 k ∧ Hid (Ow LbR 2 72 w3.heap.size wr u (byL (BS.take k))) ∧ Hid (Below w3.heap.size w3 wr)) (fun _ i _ => lb - (intOf i).toNat)
    case atStart => exact ⟨0, Nat.zero_le _, rfl, Lib.hid Ow.nil, Lib.hid (Below.refl _ _)⟩
    case round =>
      obtain ⟨k, hk, rfl, HO, HBR⟩ := hrel
      by_cases hlt : k < lb
      case neg =>
        obtain rfl : k = lb := by omega
        obtain ⟨uo, uc, hu3, hu1, hu2⟩ := Sp.shapeN HO.out.sp (by rw [byL_len, List.length_take, HLB.out, Nat.min_self])
        subst hu3
        have HLC := Lib.hid (lbcheck_any _ (byL BS) wr (by have := HO.out.sp; rwa [List.take_of_length_le (by rw [HLB.out]; exact Nat.le_refl _)] at this))
        rw [HE2.out] at HLC
        have HBX4 := Lib.hid ((HBR.out.block bx hbl3).trans HBX3.out)
        have hbl4 : bx < wr.heap.size := (Array.getElem?_eq_some_iff.1 HBX4.out).1
        have HB4 := Lib.hid (HB3.out.trans (HBR.out.mono HB3.out.size))
        clear hu1 hu2 e4
        go_upto_region 15 with (go_at_call 10; refine HLC.out.mono ?_; rintro e w6 ⟨rfl, hb6⟩; have HBX6 := Lib.hid ((hb6.block bx hbl4).trans HBX4.out); have HB6 := Lib.hid (HB4.out.trans (hb6.mono HB4.out.size)); clear hb6)
        by_cases g2 : E2 = 0
        case neg =>
          have hf : F = E2 := by rw [HF2.out]; exact if_pos g2
          have t1 : (E2 != 0) = true := by rw [bne_iff_ne]; exact g2
          subst hf
          clear g2
          go_wp2_with fail
          go_ret
          exact ⟨rfl, HB6.out⟩
        subst g2
        have HF3 : Hid (F = chL XS) := Lib.hid (by rw [HF2.out]; exact if_neg (by decide))
        obtain ⟨⟨-, -, -, -, -, e5⟩, -⟩ := bx6 HBX6.out
        go_wp2_with fail
        obtain ⟨wB, rfl⟩ : ∃ x, x = wr := ⟨_, rfl⟩
        go_loopw [103] (fun i wr => ∃ (k : Nat), k ≤ lx ∧ i = .int .i64 k ∧ Hid (F = chL (XS.drop k)) ∧ Hid (Below w.heap.size w wr)) (fun i _ => lx - (intOf i).toNat)
        case atStart => exact ⟨0, Nat.zero_le _, rfl, HF3, HB6⟩
        case round =>
          obtain ⟨j, hj, rfl, HFJ, HBJ⟩ := hrel
          by_cases hjl : j < lx
          case neg =>
            have hf : F = 0 := by rw [HFJ.out, List.drop_of_length_le (by rw [HLX.out]; omega), chL_nil]
            subst hf
            go_wp2_with fail
            go_ret
            exact ⟨rfl, HBJ.out⟩
          obtain ⟨y, hy⟩ : ∃ y, XS[j]? = some y := ⟨_, List.getElem?_eq_getElem (by rw [HLX.out]; exact hjl)⟩
          obtain ⟨b, off, cs, rfl, hy2, -, hck⟩ := (HX.out.below (exD_mono d) HBJ.out).get hy
          obtain ⟨k0, k1, k2, xm, ym, zm, xb, yb, zb, xx, yx, zx, rfl⟩ := exD_shape hy2
          have c0 := hck 0 _ rfl
          have c1 := hck 1 _ rfl
          have c2 := hck 2 _ rfl
          have c3 := hck 3 _ rfl
          have c4 := hck 4 _ rfl
          have c5 := hck 5 _ rfl
          rw [Nat.add_zero] at c0
          obtain ⟨q, hq⟩ : ∃ q, chX y = q := ⟨_, rfl⟩
          have HFK : Hid (F = if q ≠ 0 then q else chL (XS.drop (j + 1))) := Lib.hid (by rw [HFJ.out, drop_at' hy, chL_cons, hq])
          obtain ⟨wb, hwb, -, hbb, -⟩ := box_ex wr (.int .i64 k0) (.int .i64 k1) (.int .i64 k2) (.slice xm ym zm) (.slice xb yb zb) (.slice xx yx zx)
          have HBB := Lib.hid (HBJ.out.trans (hbb.mono HBJ.out.size))
          have HC := Lib.hid (IH.out y (.int .i64 k0) (.int .i64 k1) (.int .i64 k2) (.slice xm ym zm) (.slice xb yb zb) (.slice xx yx zx) wb (exD_mono d _ _ _ _ hy2 hbb))
          rw [hq] at HC
          rw [hwb] at HC HBB
          clear hck hy2 hy hq hwb hbb
          go_wp2_with fail
          refine HC.out.mono ?_
          rintro e w7 ⟨rfl, hb7⟩
          have HB7 := Lib.hid (HBB.out.trans (hb7.mono HBB.out.size))
          clear hb7 c0 c1 c2 c3 c4 c5
          by_cases g3 : q = 0
          case neg =>
            have hf : F = q := by rw [HFK.out]; exact if_pos g3
            have t1 : (q != 0) = true := by rw [bne_iff_ne]; exact g3
            subst hf
            clear g3
            go_wp2_with fail
            go_ret
            exact ⟨rfl, HB7.out⟩
          subst g3
          have HFL : Hid (F = chL (XS.drop (j + 1))) := Lib.hid (by rw [HFK.out]; exact if_neg (by decide))
          go_wp2_with fail
          go_roundw
          case rel => exact ⟨j + 1, by omega, by go_num, HFL, HB7⟩
          case measure => simp [intOf]; omega
      obtain ⟨s, hs⟩ : ∃ s, BS[k]? = some s := ⟨_, List.getElem?_eq_getElem (by rw [HLB.out]; exact hlt)⟩
      obtain ⟨b, off, cs, rfl, ⟨rfl, hsl⟩, -, hck⟩ := ((HBS.out.below strR_mono HB3.out).below strR_mono HBR.out).get hs
      have c0 := hck 0 _ rfl
      rw [Nat.add_zero, Nat.mul_one] at c0
      have HS := Lib.hid hs
      have HPL : Hid ((byL (BS.take k)).length = k) := Lib.hid (by rw [byL_len, List.length_take, HLB.out]; omega)
      obtain ⟨uo, uc, rfl, hu1, hu2⟩ := Sp.shapeN HO.out.sp HPL.out
      obtain ⟨P, hP1, hP2, hP3, hP4⟩ := HO.out
      rw [HPL.out] at hP4
      have HPP := Lib.hid (And.intro hP1 (And.intro hP2 hP3))
      have HMR : Hid (LbR w ⟨s, []⟩ [.string (mkS s), .string ⟨#[]⟩]) := Lib.hid ⟨rfl, by show s.length ≤ _; omega, by show (0 : Nat) ≤ _; omega⟩
      obtain ⟨Sn, hSn⟩ : ∃ S, S = mkS s := ⟨_, rfl⟩
      rw [← hSn] at HMR c0
      have HBB := HBR.out
      clear hck hs hP1 hP2 hP3 hSn hsl
      go_wp2_with (at_builtin; refine append1 [.string Sn, .string ⟨#[]⟩] elLb rfl _ _ rfl hP4 HBB HBB.size rfl rfl rfl (by intro x hx; simp at hx; rcases hx with rfl | rfl <;> rfl) ?c4 ?c5 ?_)
      case c4 => omega
      case c5 => omega
      intro v5 w5 hown5 hbel5 hgr5
      have HON : Hid (Ow LbR 2 72 w3.heap.size w5 v5 (byL (BS.take (k + 1)))) := Lib.hid (by
        rw [byL_take HS.out]
        exact Ow.snoc (w := wr) (lbR_grow _ _ _) HPP.out.1 HPP.out.2.1 (fun q hq => HPP.out.2.2 q hq) hP4 HPL.out.symm hgr5 hown5 rfl HMR.out)
      have HB5 := Lib.hid hbel5
      obtain ⟨vo, vc, rfl, -, -, -⟩ := own_shape hown5
      clear hown5 hgr5 hbel5 hP4 HBB
      go_wp2_with fail
      go_roundw
      case rel => exact ⟨k + 1, by omega, by go_num, HON, HB5⟩
      case measure => simp [intOf]; omega
end Go.Proofs.YtlfhcjhbnakamaaGreatDoor.Exp
/-
  Expressions: the walk of exprFault (PRINTED by mkex4.py).
-/
namespace Go.Proofs.YtlfhcjhbnakamaaGreatDoor.Exp
open Go.RowKit Go.Gh Go.Proofs.YtlfhcjhbnakamaaGreatDoor.Lab
set_option linter.unusedVariables false
set_option linter.unusedSimpArgs false
/-- The name ahead. -/
def prevB (L : List By) (k : Nat) : Option By := if k = 0 then none else L[k - 1]?
theorem byL_cons (s : By) (r : List By) : byL (s :: r) = ⟨s, []⟩ :: byL r := rfl
theorem goB (p : Option By) (s : By) (r : List By) : goL p (byL (s :: r)) = if nameOk s = false then 4 else if badO p s = true then 5 else goL (some s) (byL r) := by
  rw [byL_cons, goL_cons]
  exact rfl
set_option maxHeartbeats 16000000 in
set_option maxRecDepth 100000 in
theorem exfault_any (d : Nat) : ∀ (x : Ex) (u0 u1 u2 u3 u4 u5 : Value) (w : World), ExD d w x [u0, u1, u2, u3, u4, u5] → Calls Tryz.prog 39 #[.agg #[u0, u1, u2, u3, u4, u5]] w fun e w' => e = .returned (.int .i64 (chX x)) ∧ Below w.heap.size w w' := by
  induction d with
  | zero => intro x u0 u1 u2 u3 u4 u5 w h; exact h.elim
  | succ d ih =>
    intro x u0 u1 u2 u3 u4 u5 w h
    obtain ⟨vm, vb, vx, hc, hm, hb, hx, hbd, -⟩ := h
    simp only [List.cons.injEq, and_true] at hc
    obtain ⟨rfl, rfl, rfl, rfl, rfl, rfl⟩ := hc
    obtain ⟨lm, hlm⟩ : ∃ n, x.ms.length = n := ⟨_, rfl⟩
    obtain ⟨lb, hlb⟩ : ∃ n, x.bs.length = n := ⟨_, rfl⟩
    obtain ⟨lx, hlx⟩ : ∃ n, x.xs.length = n := ⟨_, rfl⟩
    obtain ⟨am, cm, rfl, hm1, hm2⟩ := hm.shapeN hlm
    obtain ⟨ab, cb, rfl, hb1, hb2⟩ := hb.shapeN hlb
    obtain ⟨ax, cx, rfl, hx1, hx2⟩ := hx.shapeN hlx
    have hF := chX_eq x
    obtain ⟨F, hF2⟩ : ∃ F, chX x = F := ⟨_, rfl⟩
    rw [hF2] at hF ⊢
    obtain ⟨K, hK⟩ : ∃ K, x.kd = K := ⟨_, rfl⟩
    obtain ⟨N, hN⟩ : ∃ K, x.n = K := ⟨_, rfl⟩
    obtain ⟨W, hW⟩ : ∃ K, x.wd = K := ⟨_, rfl⟩
    obtain ⟨p, hp⟩ : ∃ p, prtF x.kd = p := ⟨_, rfl⟩
    obtain ⟨B, hB⟩ : ∃ B, B = decide (badX x) := ⟨_, rfl⟩
    have HB := Lib.hid (badB hB hp hK hN hW hlm hlb hlx)
    have HF : Hid (F = if B = true then 1 else if matchF x.ms ≠ 0 then matchF x.ms else if labelF (byL x.bs) ≠ 0 then labelF (byL x.bs) else chL x.xs) := Lib.hid (by rw [hF, hB]; simp only [decide_eq_true_iff])
    rw [hK] at hp
    have HPK := Lib.hid hp
    rw [hK, hN, hW]
    obtain ⟨wa, hwa, hbox, hba, hsa⟩ := box_ex w (.int .i64 K) (.int .i64 N) (.int .i64 W) (.slice am lm cm) (.slice ab lb cb) (.slice ax lx cx)
    have HWA := Lib.hid hwa
    have HBA := Lib.hid hba
    have HM := Lib.hid hm
    have HBS := Lib.hid hb
    have HX := Lib.hid hx
    have HLB := Lib.hid hlb
    have HLX := Lib.hid hlx
    have IH := Lib.hid ih
    have HBD := Lib.hid hbd
    obtain ⟨E1, hE1⟩ : ∃ E, matchF x.ms = E := ⟨_, rfl⟩
    obtain ⟨E2, hE2⟩ : ∃ E, labelF (byL x.bs) = E := ⟨_, rfl⟩
    rw [hE1, hE2] at HF
    have HMC := Lib.hid (fun W (hb : Below w.heap.size w W) => mtfault_any _ x.ms W (hm.below mtR_mono hb))
    rw [hE1] at HMC
    have HE2 := Lib.hid hE2
    obtain ⟨BS, hBS⟩ : ∃ E, x.bs = E := ⟨_, rfl⟩
    obtain ⟨XS, hXS⟩ : ∃ E, x.xs = E := ⟨_, rfl⟩
    rw [hBS] at HBS HLB HE2 HBD
    rw [hXS] at HX HLX HF
    clear hF hF2 hK hN hW hp hB hwa hba hsa hm hb hx hlm hlb hlx ih hbd hE1 hE2 hBS hXS
    go_enter Tryz.func39, Tryz.ntmps39
    go_upto_region 1 with (fail)
    rw [← HWA.out]
    obtain ⟨⟨d0, d1, d2, d3, d4, d5⟩, -⟩ := bx6 hbox
    obtain ⟨bx, hbx⟩ : ∃ bx, w.heap.size = bx := ⟨_, rfl⟩
    rw [hbx] at d0 d1 d2 d3 d4 d5 hbox ⊢
    have HBX := Lib.hid hbox
    have HBE := Lib.hid hbx
    clear hbox hbx
    have hbl : bx < wa.heap.size := (Array.getElem?_eq_some_iff.1 HBX.out).1
    obtain ⟨BK, hBK⟩ : ∃ B, B = decide (K < 1 ∨ 8 < K) := ⟨_, rfl⟩
    have HBK := Lib.hid hBK
    clear hBK
    go_upto_region 1 with (fail)
    obtain ⟨A0, hA0⟩ : ∃ A, A = Value.agg #[.int .i64 K, .int .i64 N, .int .i64 W, .slice am lm cm, .slice ab lb cb, .slice ax lx cx] := ⟨_, rfl⟩
    rw [← hA0]
    clear hA0
    go_cut [17] (fun t wx => t = .bool BK ∧ wx = wa)
    case first =>
      by_cases g1 : K < 1
      · obtain rfl : BK = true := by rw [HBK.out]; exact decide_eq_true (Or.inl g1)
        go_wp2_with fail
        go_meet
        exact ⟨rfl, rfl⟩
      · by_cases g2 : 8 < K
        · obtain rfl : BK = true := by rw [HBK.out]; exact decide_eq_true (Or.inr g2)
          go_wp2_with fail
          go_meet
          exact ⟨rfl, rfl⟩
        · obtain rfl : BK = false := by rw [HBK.out]; exact decide_eq_false (by omega)
          go_wp2_with fail
          go_meet
          exact ⟨rfl, rfl⟩
    obtain ⟨rfl, rfl⟩ := hcut
    obtain ⟨wa, rfl⟩ : ∃ x, x = wc := ⟨_, rfl⟩
    cases BK with
    | true =>
      have hf : F = 1 := by
        rw [HF.out, if_pos]
        refine HB.out.2 (Or.inl ?_)
        have h := of_decide_eq_true HBK.out.symm
        rw [← HPK.out]
        unfold prtF
        rw [if_neg (by omega), if_neg (by omega), if_neg (by omega)]
        decide
      subst hf
      go_wp2_with fail
      go_ret
      exact ⟨rfl, HBA.out⟩
    | false =>
    have hK8 := of_decide_eq_false HBK.out.symm
    have hK1 : K = 1 ∨ K = 2 ∨ K = 3 ∨ K = 4 ∨ K = 5 ∨ K = 6 ∨ K = 7 ∨ K = 8 := by omega
    have hp0 : 0 ≤ p := by
      rw [← HPK.out]
      rcases hK1 with rfl | rfl | rfl | rfl | rfl | rfl | rfl | rfl <;> decide
    have HK1 := Lib.hid hK1
    clear hK8 hK1
    go_upto_region 3 with (fail)
    go_cut [3] (fun t wx => t = .int .i64 p ∧ Hid (Below wa.heap.size wa wx))
    case first =>
      have hp := HPK.out
      rcases HK1.out with rfl | rfl | rfl | rfl | rfl | rfl | rfl | rfl
      all_goals
        obtain rfl := hp
        go_wp2_with fail
        go_meet
        exact ⟨rfl, Lib.hid ((Below.refl _ wa).alloc (Nat.le_refl _) _)⟩
    obtain ⟨rfl, HWC⟩ := hcut
    obtain ⟨w2, rfl⟩ : ∃ x, x = wc := ⟨_, rfl⟩
    have HBX2 := Lib.hid ((HWC.out.block bx hbl).trans HBX.out)
    have HB2 := Lib.hid (HBA.out.trans (HWC.out.mono HBA.out.size))
    clear d0 d1 d2 d3 d4 d5
    obtain ⟨⟨d0, d1, d2, d3, d4, d5⟩, -⟩ := bx6 HBX2.out
    have hbl2 : bx < w2.heap.size := (Array.getElem?_eq_some_iff.1 HBX2.out).1
    go_upto_region 4 with (fail)
    go_cut [3, 78] (fun x t wx => t = .bool B ∧ wx = w2)
    case first =>
      go_wp2_with fail
      all_goals
        go_meet
        refine ⟨congrArg Value.bool (Bool.eq_iff_iff.2 (Iff.trans ?_ HB.out.symm)), rfl⟩
        unfold BadC
        first
          | (simp only [decide_eq_true_iff]; omega)
          | (simp only [true_iff]; omega)
          | (simp only [Bool.false_eq_true, false_iff]; omega)
          | (simp only [Bool.or_eq_true, decide_eq_true_iff]; omega)
          | (simp only [Bool.and_eq_true, Bool.or_eq_true, decide_eq_true_iff, Bool.not_eq_true', decide_eq_false_iff_not, bne_iff_ne]; omega)
    obtain ⟨rfl, rfl⟩ := hcut
    obtain ⟨w2, rfl⟩ : ∃ x, x = wc := ⟨_, rfl⟩
    cases B with
    | true =>
      have hf : F = 1 := by rw [HF.out]; exact if_pos rfl
      subst hf
      go_wp2_with fail
      go_ret
      exact ⟨rfl, HB2.out⟩
    | false =>
    have HF1 : Hid (F = if E1 ≠ 0 then E1 else if E2 ≠ 0 then E2 else chL XS) := Lib.hid (by rw [HF.out]; exact if_neg (by decide))
    go_upto_region 7 with (go_at_call 27; refine (HMC.out _ HB2.out).mono ?_; rintro e w3 ⟨rfl, hb3⟩; have HBX3 := Lib.hid ((hb3.block bx hbl2).trans HBX2.out); have HB3 := Lib.hid (HB2.out.trans (hb3.mono HB2.out.size)); clear hb3)
    by_cases g1 : E1 = 0
    case neg =>
      have hf : F = E1 := by rw [HF1.out]; exact if_pos g1
      have t1 : (E1 != 0) = true := by rw [bne_iff_ne]; exact g1
      subst hf
      clear g1
      go_wp2_with fail
      go_ret
      exact ⟨rfl, HB3.out⟩
    subst g1
    have HF2 : Hid (F = if E2 ≠ 0 then E2 else chL XS) := Lib.hid (by rw [HF1.out]; exact if_neg (by decide))
    clear d0 d1 d2 d3 d4 d5
    obtain ⟨⟨-, -, -, -, e4, e5⟩, -⟩ := bx6 HBX3.out
    have hbl3 : bx < w3.heap.size := (Array.getElem?_eq_some_iff.1 HBX3.out).1
    have hlb20 : lb ≤ 1048576 := by rw [← HLB.out]; exact HBD.out
    by_cases g10 : 10 < lb
    · have hf : F = 2 := by
        have h2 : E2 = 2 := by rw [← HE2.out]; exact if_pos (by rw [byL_len, HLB.out]; exact g10)
        rw [HF2.out, h2]
        exact if_pos (by decide)
      subst hf
      go_wp2_with fail
      go_ret
      exact ⟨rfl, HB3.out⟩
    have HE3 : Hid (E2 = goL (prevB BS 0) (byL (BS.drop 0))) := Lib.hid (by rw [← HE2.out]; exact if_neg (by rw [byL_len, HLB.out]; exact g10))
    go_wp2_with fail
    go_loopw [92] (fun i wr => ∃ (k : Nat), k ≤ lb ∧ i = .int .i64 k ∧ Hid (E2 = goL (prevB BS k) (byL (BS.drop k))) ∧ Hid (Below w3.heap.size w3 wr)) (fun i _ => lb - (intOf i).toNat)
    case atStart => exact ⟨0, Nat.zero_le _, rfl, HE3, Lib.hid (Below.refl _ _)⟩
    case round =>
      obtain ⟨k, hk, rfl, HEK, HBR⟩ := hrel
      obtain ⟨wB, rfl⟩ : ∃ x, x = wr := ⟨_, rfl⟩
      have HBXB := Lib.hid ((HBR.out.block bx hbl3).trans HBX3.out)
      have HBB0 := Lib.hid (HB3.out.trans (HBR.out.mono HB3.out.size))
      have hblB : bx < wB.heap.size := (Array.getElem?_eq_some_iff.1 HBXB.out).1
      by_cases hlt : k < lb
      case neg =>
        have g2 : E2 = 0 := by rw [HEK.out, List.drop_of_length_le (by rw [HLB.out]; omega)]; rfl
        clear e4 e5
        have HBX6 := HBXB
        have HB6 := HBB0
        subst g2
        have HF3 : Hid (F = chL XS) := Lib.hid (by rw [HF2.out]; exact if_neg (by decide))
        obtain ⟨⟨-, -, -, -, -, e5⟩, -⟩ := bx6 HBX6.out
        go_wp2_with fail
        go_loopw [116] (fun i wr => ∃ (k : Nat), k ≤ lx ∧ i = .int .i64 k ∧ Hid (F = chL (XS.drop k)) ∧ Hid (Below w.heap.size w wr)) (fun i _ => lx - (intOf i).toNat)
        case atStart => exact ⟨0, Nat.zero_le _, rfl, HF3, HB6⟩
        case round =>
          obtain ⟨j, hj, rfl, HFJ, HBJ⟩ := hrel
          by_cases hjl : j < lx
          case neg =>
            have hf : F = 0 := by rw [HFJ.out, List.drop_of_length_le (by rw [HLX.out]; omega), chL_nil]
            subst hf
            go_wp2_with fail
            go_ret
            exact ⟨rfl, HBJ.out⟩
          obtain ⟨y, hy⟩ : ∃ y, XS[j]? = some y := ⟨_, List.getElem?_eq_getElem (by rw [HLX.out]; exact hjl)⟩
          obtain ⟨b, off, cs, rfl, hy2, -, hck⟩ := (HX.out.below (exD_mono d) HBJ.out).get hy
          obtain ⟨k0, k1, k2, xm, ym, zm, xb, yb, zb, xx, yx, zx, rfl⟩ := exD_shape hy2
          have c0 := hck 0 _ rfl
          have c1 := hck 1 _ rfl
          have c2 := hck 2 _ rfl
          have c3 := hck 3 _ rfl
          have c4 := hck 4 _ rfl
          have c5 := hck 5 _ rfl
          rw [Nat.add_zero] at c0
          obtain ⟨q, hq⟩ : ∃ q, chX y = q := ⟨_, rfl⟩
          have HFK : Hid (F = if q ≠ 0 then q else chL (XS.drop (j + 1))) := Lib.hid (by rw [HFJ.out, drop_at' hy, chL_cons, hq])
          obtain ⟨wb, hwb, -, hbb, -⟩ := box_ex wr (.int .i64 k0) (.int .i64 k1) (.int .i64 k2) (.slice xm ym zm) (.slice xb yb zb) (.slice xx yx zx)
          have HBB := Lib.hid (HBJ.out.trans (hbb.mono HBJ.out.size))
          have HC := Lib.hid (IH.out y (.int .i64 k0) (.int .i64 k1) (.int .i64 k2) (.slice xm ym zm) (.slice xb yb zb) (.slice xx yx zx) wb (exD_mono d _ _ _ _ hy2 hbb))
          rw [hq] at HC
          rw [hwb] at HC HBB
          clear hck hy2 hy hq hwb hbb
          go_wp2_with fail
          refine HC.out.mono ?_
          rintro e w7 ⟨rfl, hb7⟩
          have HB7 := Lib.hid (HBB.out.trans (hb7.mono HBB.out.size))
          clear hb7 c0 c1 c2 c3 c4 c5
          by_cases g3 : q = 0
          case neg =>
            have hf : F = q := by rw [HFK.out]; exact if_pos g3
            have t1 : (q != 0) = true := by rw [bne_iff_ne]; exact g3
            subst hf
            clear g3
            go_wp2_with fail
            go_ret
            exact ⟨rfl, HB7.out⟩
          subst g3
          have HFL : Hid (F = chL (XS.drop (j + 1))) := Lib.hid (by rw [HFK.out]; exact if_neg (by decide))
          go_wp2_with fail
          go_roundw
          case rel => exact ⟨j + 1, by omega, by go_num, HFL, HB7⟩
          case measure => simp [intOf]; omega
      obtain ⟨s, hs⟩ : ∃ s, BS[k]? = some s := ⟨_, List.getElem?_eq_getElem (by rw [HLB.out]; exact hlt)⟩
      have HSB := Lib.hid ((HBS.out.below strR_mono HB3.out).below strR_mono HBR.out)
      obtain ⟨b, off, cs, rfl, ⟨rfl, hsl⟩, -, hck⟩ := HSB.out.get hs
      have c0 := hck 0 _ rfl
      rw [Nat.add_zero, Nat.mul_one] at c0
      have HEN : Hid (E2 = if nameOk s = false then 4 else if badO (prevB BS k) s = true then 5 else goL (some s) (byL (BS.drop (k + 1)))) := Lib.hid (by rw [HEK.out, drop_at' hs, goB])
      have HPN : Hid (prevB BS (k + 1) = some s) := Lib.hid (by unfold prevB; rw [if_neg (by omega), Nat.add_sub_cancel, hs])
      have HNC := Lib.hid (fun w => goodname_any s w (by omega))
      have hcase : (k = 0 ∧ badO (prevB BS k) s = false) ∨ ∃ (j : Nat) (T : ByteArray), k = j + 1 ∧ wB.cell? ⟨b, off + j, none⟩ = some (.string T) ∧ (nameOk s = true → (Op.bytesLess (mkS s).toList T.toList || (mkS s).toList == T.toList) = badO (prevB BS k) s) := by
        by_cases h0 : k = 0
        · exact Or.inl ⟨h0, by rw [h0]; rfl⟩
        · obtain ⟨j, rfl⟩ : ∃ j, k = j + 1 := ⟨k - 1, by omega⟩
          obtain ⟨y, hy⟩ : ∃ y, BS[j]? = some y := ⟨_, List.getElem?_eq_getElem (by rw [HLB.out]; omega)⟩
          obtain ⟨b', off', cs', e', ⟨rfl, -⟩, _, hck'⟩ := HSB.out.get hy
          injection e' with e'
          injection e' with e1 e2
          have d0 := hck' 0 _ rfl
          rw [Nat.add_zero, Nat.mul_one, ← e1, ← e2] at d0
          refine Or.inr ⟨j, _, rfl, d0, fun h => ?_⟩
          have hp : prevB BS (j + 1) = some y := by unfold prevB; rw [if_neg (by omega), Nat.add_sub_cancel, hy]
          rw [hp, mkS_list, mkS_list]
          exact bad_le (some y) (nameOk_all h).1
      generalize hSx : mkS s = S at *
      obtain ⟨Bn, hBn⟩ : ∃ B, nameOk s = B := ⟨_, rfl⟩
      rw [hBn] at HEN HNC hcase
      obtain ⟨O, hO⟩ : ∃ O, badO (prevB BS k) s = O := ⟨_, rfl⟩
      rw [hO] at HEN hcase
      have HCASE := Lib.hid hcase
      obtain ⟨⟨-, -, -, -, f4, -⟩, -⟩ := bx6 HBXB.out
      clear hck hs hBn hO hSx hcase hsl e4 e5
      go_wp2_with fail
      refine (HNC.out _).mono ?_
      rintro e w4 ⟨rfl, hb4⟩
      have HB4 := Lib.hid (HBB0.out.trans (hb4.mono HBB0.out.size))
      have HCB := Lib.hid hb4
      obtain ⟨⟨-, -, -, -, q4, -⟩, -⟩ := bx6 ((hb4.block bx hblB).trans HBXB.out)
      clear hb4 f4
      cases Bn with
      | false =>
        have h4 : F = 4 := by rw [HF2.out, HEN.out, if_pos rfl]; rfl
        subst h4
        go_wp2_with fail
        go_ret
        exact ⟨rfl, HB4.out⟩
      | true =>
      rcases HCASE.out with ⟨rfl, rfl⟩ | ⟨j, T, hkj, d0, hlb⟩
      · have HE5 : Hid (E2 = goL (prevB BS (0 + 1)) (byL (BS.drop (0 + 1)))) := Lib.hid (by rw [HEN.out, if_neg (by decide), if_neg (by decide), HPN.out])
        go_wp2_with fail
        go_roundw
        case rel => exact ⟨0 + 1, by omega, by go_num, HE5, Lib.hid (HBR.out.trans (HCB.out.mono HBR.out.size))⟩
        case measure => simp [intOf]; omega
      have hlb := hlb (by trivial)
      have d0 := (HCB.out.cell (p := ⟨b, off + j, none⟩) (cell_lt d0)).trans d0
      have hkj2 : (k : Int) - 1 = (j : Int) := by omega
      have hw1 : IntKind.i64.wrap ((k : Int) - 1) = (j : Int) := by rw [IntKind.wrap_i64]; omega
      have hw2 : IntKind.i64.wrap (j : Int) = (j : Int) := by rw [IntKind.wrap_i64]; omega
      have hj0 : (0 : Int) ≤ (j : Int) := by omega
      have hj1 : (j : Int) < (lb : Int) := by omega
      have hj2 : j < lb := by omega
      have hk0 : 0 < k := by omega
      have HKJ := Lib.hid hkj
      clear hkj
      generalize hb1 : Op.bytesLess S.toList T.toList = b1 at *
      generalize hb2 : (S.toList == T.toList) = b2 at *
      cases O with
      | true =>
        have h5' : E2 = 5 := by rw [HEN.out, if_neg (by decide), if_pos rfl]
        have h5 : F = 5 := by rw [HF2.out, h5']; exact if_pos (by decide)
        clear h5'
        subst h5
        cases b1 with
        | true =>
          clear hlb
          go_wp2_with fail
          go_ret
          exact ⟨rfl, HB4.out⟩
        | false =>
          obtain rfl : b2 = true := by simpa using hlb
          clear hlb
          go_wp2_with fail
          go_ret
          exact ⟨rfl, HB4.out⟩
      | false =>
        obtain ⟨rfl, rfl⟩ : b1 = false ∧ b2 = false := by simpa using hlb
        have HE5 : Hid (E2 = goL (prevB BS (k + 1)) (byL (BS.drop (k + 1)))) := Lib.hid (by rw [HEN.out, if_neg (by decide), if_neg (by decide), HPN.out])
        clear hlb
        go_wp2_with fail
        go_roundw
        case rel => exact ⟨k + 1, by omega, by go_num, HE5, Lib.hid (HBR.out.trans (HCB.out.mono HBR.out.size))⟩
        case measure => simp [intOf]; omega
end Go.Proofs.YtlfhcjhbnakamaaGreatDoor.Exp
/-
  Contracts of the library at this program, laid by the kit's own tool (in plain words).
-/
namespace Go.Proofs
open Go.Shelf
def YtlfhcjhbnakamaaGreatDoor.laysM173_ren : Go.Shelf.Ren := ⟨fun | 173 => 65 | 246 => 79 | 283 => 90 | 284 => 91 | 285 => 92 | 286 => 93 | 129 => 105 | 317 => 104 | 318 => 106 | 319 => 107 | 320 => 108 | 337 => 117 | 338 => 118 | n => n, fun | 2 => 2 | 3 => 3 | 9 => 9 | 4 => 4 | 171 => 143 | 0 => 0 | 53 => 78 | 37 => 45 | 5 => 5 | 173 => 146 | 212 => 158 | 51 => 127 | 20 => 20 | 213 => 159 | 46 => 102 | 232 => 193 | 233 => 194 | n => n, fun | 17 => 2 | 18 => 4 | 19 => 5 | n => n⟩
theorem YtlfhcjhbnakamaaGreatDoor.laysM173 : Go.Proofs.LaysM.n173 Tryz.prog YtlfhcjhbnakamaaGreatDoor.laysM173_ren := {
  mixed := by kernel_rfl
  f129 := Tryz.func105.trans (congrArg some (by kernel_rfl))
  f173 := Tryz.func65.trans (congrArg some (by kernel_rfl))
  f246 := Tryz.func79.trans (congrArg some (by kernel_rfl))
  f283 := Tryz.func90.trans (congrArg some (by kernel_rfl))
  f284 := Tryz.func91.trans (congrArg some (by kernel_rfl))
  f285 := Tryz.func92.trans (congrArg some (by kernel_rfl))
  f286 := Tryz.func93.trans (congrArg some (by kernel_rfl))
  f317 := Tryz.func104.trans (congrArg some (by kernel_rfl))
  f318 := Tryz.func106.trans (congrArg some (by kernel_rfl))
  f319 := Tryz.func107.trans (congrArg some (by kernel_rfl))
  f320 := Tryz.func108.trans (congrArg some (by kernel_rfl))
  f337 := Tryz.func117.trans (congrArg some (by kernel_rfl))
  f338 := Tryz.func118.trans (congrArg some (by kernel_rfl))
  t0 := Tryz.underlying0
  a0 := Tryz.isAgg0
  z0 := Tryz.sizeOf0
  v0 := Tryz.zeroValue0
  t2 := Tryz.underlying2
  a2 := Tryz.isAgg2
  z2 := Tryz.sizeOf2
  v2 := Tryz.zeroValue2
  t3 := Tryz.underlying3
  a3 := Tryz.isAgg3
  z3 := Tryz.sizeOf3
  v3 := Tryz.zeroValue3
  t4 := Tryz.underlying4
  a4 := Tryz.isAgg4
  z4 := Tryz.sizeOf4
  v4 := Tryz.zeroValue4
  t5 := Tryz.underlying5
  a5 := Tryz.isAgg5
  z5 := Tryz.sizeOf5
  v5 := Tryz.zeroValue5
  t9 := Tryz.underlying9
  a9 := Tryz.isAgg9
  z9 := Tryz.sizeOf9
  v9 := Tryz.zeroValue9
  t20 := Tryz.underlying20
  a20 := Tryz.isAgg20
  z20 := Tryz.sizeOf20
  v20 := Tryz.zeroValue20
  t37 := Tryz.underlying45
  a37 := Tryz.isAgg45
  z37 := Tryz.sizeOf45
  v37 := Tryz.zeroValue45
  t46 := Tryz.underlying102
  a46 := Tryz.isAgg102
  z46 := Tryz.sizeOf102
  v46 := Tryz.zeroValue102
  t51 := Tryz.underlying127
  a51 := Tryz.isAgg127
  z51 := Tryz.sizeOf127
  v51 := Tryz.zeroValue127
  t53 := Tryz.underlying78
  a53 := Tryz.isAgg78
  z53 := Tryz.sizeOf78
  v53 := Tryz.zeroValue78
  t171 := Tryz.underlying143
  a171 := Tryz.isAgg143
  z171 := Tryz.sizeOf143
  v171 := Tryz.zeroValue143
  t173 := Tryz.underlying146
  a173 := Tryz.isAgg146
  z173 := Tryz.sizeOf146
  v173 := Tryz.zeroValue146
  t212 := Tryz.underlying158
  a212 := Tryz.isAgg158
  z212 := Tryz.sizeOf158
  v212 := Tryz.zeroValue158
  t213 := Tryz.underlying159
  a213 := Tryz.isAgg159
  z213 := Tryz.sizeOf159
  t232 := Tryz.underlying193
  a232 := Tryz.isAgg193
  z232 := Tryz.sizeOf193
  v232 := Tryz.zeroValue193
  t233 := Tryz.underlying194
  a233 := Tryz.isAgg194
  z233 := Tryz.sizeOf194
  v233 := Tryz.zeroValue194
  g17 := by kernel_rfl
  g18 := by kernel_rfl
  g19 := by kernel_rfl
  i0 := by kernel_rfl
  i2 := by kernel_rfl
  i3 := by kernel_rfl
  i4 := by kernel_rfl
  i5 := by kernel_rfl
  i9 := by kernel_rfl
  i20 := by kernel_rfl
  i37 := by kernel_rfl
  i46 := by kernel_rfl
  i51 := by kernel_rfl
  i53 := by kernel_rfl
  i171 := by kernel_rfl
  i173 := by kernel_rfl
  i212 := by kernel_rfl
  i232 := by kernel_rfl
  i233 := by kernel_rfl
  m17 := by kernel_rfl
  m18 := by kernel_rfl
  m19 := by kernel_rfl }
open Go.RowKit Go.Sort Go.Lib in
theorem YtlfhcjhbnakamaaGreatDoor.strconv_FormatInt_10 (n : Int) (h0 : -9223372036854775808 ≤ n) (h1 : n ≤ 9223372036854775807) (w : World) (htab : Lib.TabIs Tryz.prog w "internal/strconv.uint64pow10" .u64 Lib.pow10Tab) :
    Calls Tryz.prog 65 #[.int .i64 n, .int .i64 10] w fun e w' => e = .returned (.string ⟨(Lib.itoa n).toArray⟩) ∧ ∃ k os, w' = grow (w.drewN k) os := Any.strconv_FormatInt_10 YtlfhcjhbnakamaaGreatDoor.laysM173 n h0 h1 w htab
end Go.Proofs
