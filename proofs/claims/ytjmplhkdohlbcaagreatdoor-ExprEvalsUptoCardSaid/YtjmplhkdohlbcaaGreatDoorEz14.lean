/-
  What Eval finds wrong: as plain functions.
-/
import Derived.Test.YtjmplhkdohlbcaaGreatDoorEz4
import Derived.Test.YtjmplhkdohlbcaaGreatDoorEz7
import Derived.Test.YtjmplhkdohlbcaaGreatDoorEz9
import Derived.Test.YtjmplhkdohlbcaaGreatDoorEz13
import Derived.Shelf.Lay
import Derived.Shelf.LaySoft
import Derived.Shelf.LaysM
import Derived.Shelf.Strconv.Itoa4
import Derived.Test.YtjmplhkdohlbcaaGreatDoorProg
import Derived.Lib.AppendIntMem
import Derived.Deep.RegionHeld3
namespace Go.Gh
open Go.Proofs.YtjmplhkdohlbcaaGreatDoor.Lab
set_option linter.unusedVariables false
set_option linter.unusedSimpArgs false
noncomputable def goS : List Srs → Int
  | [] => 0
  | s :: r => if labelF s.1 ≠ 0 then labelF s.1 else if Go.Proofs.YtjmplhkdohlbcaaGreatDoor.Smp.sampF s.2 ≠ 0 then Go.Proofs.YtjmplhkdohlbcaaGreatDoor.Smp.sampF s.2 else goS r
def SOk (s : Srs) : Prop := labelF s.1 = 0 ∧ Go.Proofs.YtjmplhkdohlbcaaGreatDoor.Smp.sampF s.2 = 0
theorem goS_ok : ∀ {l : List Srs}, goS l = 0 ↔ ∀ s ∈ l, SOk s
  | [] => by simp [goS]
  | s :: r => by
    rw [goS]
    by_cases h1 : labelF s.1 = 0
    · rw [if_neg (by simpa using h1)]
      by_cases h2 : Go.Proofs.YtjmplhkdohlbcaaGreatDoor.Smp.sampF s.2 = 0
      · rw [if_neg (by simpa using h2), goS_ok]
        constructor
        · intro h x hx
          rcases List.mem_cons.1 hx with e | hx
          · rw [e]; exact ⟨h1, h2⟩
          · exact h x hx
        · exact fun h x hx => h x (by simp [hx])
      · rw [if_pos h2]
        exact ⟨fun h => absurd h h2, fun h => absurd (h s (by simp)).2 h2⟩
    · rw [if_pos h1]
      exact ⟨fun h => absurd h h1, fun h => absurd (h s (by simp)).1 h1⟩
theorem goS_drop : ∀ {l : List Srs} {k : Nat}, (∀ s ∈ l.take k, SOk s) → goS l = goS (l.drop k)
  | [], k, _ => by rw [List.drop_nil]
  | s :: r, 0, _ => rfl
  | s :: r, k + 1, h => by
    have h1 := h s (by simp)
    rw [goS, if_neg (by simpa using h1.1), if_neg (by simpa using h1.2), List.drop_succ_cons]
    exact goS_drop (fun x hx => h x (by simp [hx]))
theorem goS_at {l : List Srs} {k : Nat} {s : Srs} (h : ∀ s ∈ l.take k, SOk s) (hs : l[k]? = some s) : goS l = if labelF s.1 ≠ 0 then labelF s.1 else if Go.Proofs.YtjmplhkdohlbcaaGreatDoor.Smp.sampF s.2 ≠ 0 then Go.Proofs.YtjmplhkdohlbcaaGreatDoor.Smp.sampF s.2 else goS (l.drop (k + 1)) := by
  obtain ⟨hk, rfl⟩ := List.getElem?_eq_some_iff.1 hs
  rw [goS_drop h, List.drop_eq_getElem_cons hk, goS]
theorem ok_step {l : List Srs} {k : Nat} {s : Srs} (h : ∀ s ∈ l.take k, SOk s) (hs : l[k]? = some s) (h1 : SOk s) : ∀ s ∈ l.take (k + 1), SOk s := by
  intro x hx
  rw [List.take_add_one, hs] at hx
  rcases List.mem_append.1 hx with hx | hx
  · exact h x hx
  · obtain rfl : x = s := by simpa using hx
    exact h1
/-- All labels' texts are different. -/
def DstS (l : List Srs) : Prop := l.Pairwise fun a b => kyL a.1 ≠ kyL b.1
def keysS (l : List Srs) : List By := l.map fun s => kyL s.1
theorem dst_step {l : List Srs} {k : Nat} {s : Srs} (h : DstS (l.take k)) (hs : l[k]? = some s) (hn : kyL s.1 ∉ keysS (l.take k)) : DstS (l.take (k + 1)) := by
  unfold DstS at h ⊢
  rw [List.take_add_one, hs, List.pairwise_append]
  refine ⟨h, by simp, fun a ha b hb => ?_⟩
  obtain rfl : b = s := by simpa using hb
  exact fun e => hn (List.mem_map.2 ⟨a, ha, e⟩)
theorem dst_not {l : List Srs} {k : Nat} {s : Srs} (hs : l[k]? = some s) (hn : kyL s.1 ∈ keysS (l.take k)) : ¬ DstS l := by
  intro h
  obtain ⟨a, ha, e⟩ := List.mem_map.1 hn
  obtain ⟨hk, rfl⟩ := List.getElem?_eq_some_iff.1 hs
  unfold DstS at h
  rw [← List.take_append_drop k l, List.pairwise_append] at h
  exact h.2.2 a ha l[k] (by rw [List.drop_eq_getElem_cons hk]; exact List.mem_cons_self) e
theorem keysS_step {l : List Srs} {k : Nat} {s : Srs} (hs : l[k]? = some s) : keysS (l.take (k + 1)) = keysS (l.take k) ++ [kyL s.1] := by
  unfold keysS
  rw [List.take_add_one, hs, List.map_append]
  rfl
open Classical in
noncomputable def evlF (all : List Srs) (now : Int) (x : Ex) : Int :=
  if exF x ≠ 0 then exF x else if 200 < all.length then 2 else if goS all ≠ 0 then goS all else if ¬ DstS all then 8 else if now < -1152921504606846976 ∨ 1152921504606846976 < now then 6 else 0
theorem kyL_len {L : List Lb} (h : labelF L = 0) : (kyL L).length ≤ 1060 := Go.Proofs.YtjmplhkdohlbcaaGreatDoor.Exp.textM_le (labelF_match h)
theorem srsok_of {all : List Srs} (h : ∀ s ∈ all, SOk s) (hd : DstS all) : SrsOk all := by
  refine ⟨fun s hs => (h s hs).1, ?_⟩
  unfold DstS at hd
  exact hd.imp fun h e => h (by rw [e])
theorem dstS_of {all : List Srs} (h : ∀ s ∈ all, labelF s.1 = 0) (hd : all.Pairwise fun a b => a.1 ≠ b.1) : DstS all :=
  hd.imp_of_mem fun ha hb h1 e => h1 (ky_inj (h _ ha) (h _ hb) e)
end Go.Gh
/-
  Expressions: the walk of exprFault (PRINTED by mkex4.py).
-/
namespace Go.Proofs.YtjmplhkdohlbcaaGreatDoor.Exp
open Go.RowKit Go.Gh Go.Proofs.YtjmplhkdohlbcaaGreatDoor.Lab
set_option linter.unusedVariables false
set_option linter.unusedSimpArgs false
/-- The name ahead. -/
def prevB (L : List By) (k : Nat) : Option By := if k = 0 then none else L[k - 1]?
theorem byL_cons (s : By) (r : List By) : byL (s :: r) = ⟨s, []⟩ :: byL r := rfl
theorem goB (p : Option By) (s : By) (r : List By) : goL p (byL (s :: r)) = if nameOk s = false then 4 else if badO p s = true then 5 else goL (some s) (byL r) := by
  rw [byL_cons, goL_cons]
  exact rfl
set_option maxHeartbeats 16000000 in
set_option maxRecDepth 100000 in
theorem exfault_any (d : Nat) : ∀ (x : Ex) (u0 u1 u2 u3 u4 u5 : Value) (w : World), ExD d w x [u0, u1, u2, u3, u4, u5] → Calls Tryz.prog 43 #[.agg #[u0, u1, u2, u3, u4, u5]] w fun e w' => e = .returned (.int .i64 (chX x)) ∧ Below w.heap.size w w' := by
  induction d with
  | zero => intro x u0 u1 u2 u3 u4 u5 w h; exact h.elim
  | succ d ih =>
    intro x u0 u1 u2 u3 u4 u5 w h
    obtain ⟨vm, vb, vx, hc, hm, hb, hx, hbd, -⟩ := h
    simp only [List.cons.injEq, and_true] at hc
    obtain ⟨rfl, rfl, rfl, rfl, rfl, rfl⟩ := hc
    obtain ⟨lm, hlm⟩ : ∃ n, x.ms.length = n := ⟨_, rfl⟩
    obtain ⟨lb, hlb⟩ : ∃ n, x.bs.length = n := ⟨_, rfl⟩
    obtain ⟨lx, hlx⟩ : ∃ n, x.xs.length = n := ⟨_, rfl⟩
    obtain ⟨am, cm, rfl, hm1, hm2⟩ := hm.shapeN hlm
    obtain ⟨ab, cb, rfl, hb1, hb2⟩ := hb.shapeN hlb
    obtain ⟨ax, cx, rfl, hx1, hx2⟩ := hx.shapeN hlx
    have hF := chX_eq x
    obtain ⟨F, hF2⟩ : ∃ F, chX x = F := ⟨_, rfl⟩
    rw [hF2] at hF ⊢
    obtain ⟨K, hK⟩ : ∃ K, x.kd = K := ⟨_, rfl⟩
    obtain ⟨N, hN⟩ : ∃ K, x.n = K := ⟨_, rfl⟩
    obtain ⟨W, hW⟩ : ∃ K, x.wd = K := ⟨_, rfl⟩
    obtain ⟨p, hp⟩ : ∃ p, prtF x.kd = p := ⟨_, rfl⟩
    obtain ⟨B, hB⟩ : ∃ B, B = decide (badX x) := ⟨_, rfl⟩
    have HB := Lib.hid (badB hB hp hK hN hW hlm hlb hlx)
    have HF : Hid (F = if B = true then 1 else if matchF x.ms ≠ 0 then matchF x.ms else if labelF (byL x.bs) ≠ 0 then labelF (byL x.bs) else chL x.xs) := Lib.hid (by rw [hF, hB]; simp only [decide_eq_true_iff])
    rw [hK] at hp
    have HPK := Lib.hid hp
    rw [hK, hN, hW]
    obtain ⟨wa, hwa, hbox, hba, hsa⟩ := box_ex w (.int .i64 K) (.int .i64 N) (.int .i64 W) (.slice am lm cm) (.slice ab lb cb) (.slice ax lx cx)
    have HWA := Lib.hid hwa
    have HBA := Lib.hid hba
    have HM := Lib.hid hm
    have HBS := Lib.hid hb
    have HX := Lib.hid hx
    have HLB := Lib.hid hlb
    have HLX := Lib.hid hlx
    have IH := Lib.hid ih
    have HBD := Lib.hid hbd
    obtain ⟨E1, hE1⟩ : ∃ E, matchF x.ms = E := ⟨_, rfl⟩
    obtain ⟨E2, hE2⟩ : ∃ E, labelF (byL x.bs) = E := ⟨_, rfl⟩
    rw [hE1, hE2] at HF
    have HMC := Lib.hid (fun W (hb : Below w.heap.size w W) => mtfault_any _ x.ms W (hm.below mtR_mono hb))
    rw [hE1] at HMC
    have HE2 := Lib.hid hE2
    obtain ⟨BS, hBS⟩ : ∃ E, x.bs = E := ⟨_, rfl⟩
    obtain ⟨XS, hXS⟩ : ∃ E, x.xs = E := ⟨_, rfl⟩
    rw [hBS] at HBS HLB HE2 HBD
    rw [hXS] at HX HLX HF
    clear hF hF2 hK hN hW hp hB hwa hba hsa hm hb hx hlm hlb hlx ih hbd hE1 hE2 hBS hXS
    go_enter Tryz.func43, Tryz.ntmps43
    go_upto_region 1 with (fail)
    rw [← HWA.out]
    obtain ⟨⟨d0, d1, d2, d3, d4, d5⟩, -⟩ := bx6 hbox
    obtain ⟨bx, hbx⟩ : ∃ bx, w.heap.size = bx := ⟨_, rfl⟩
    rw [hbx] at d0 d1 d2 d3 d4 d5 hbox ⊢
    have HBX := Lib.hid hbox
    have HBE := Lib.hid hbx
    clear hbox hbx
    have hbl : bx < wa.heap.size := (Array.getElem?_eq_some_iff.1 HBX.out).1
    obtain ⟨BK, hBK⟩ : ∃ B, B = decide (K < 1 ∨ 8 < K) := ⟨_, rfl⟩
    have HBK := Lib.hid hBK
    clear hBK
    go_upto_region 1 with (fail)
    obtain ⟨A0, hA0⟩ : ∃ A, A = Value.agg #[.int .i64 K, .int .i64 N, .int .i64 W, .slice am lm cm, .slice ab lb cb, .slice ax lx cx] := ⟨_, rfl⟩
    rw [← hA0]
    clear hA0
    go_cut [17] (fun t wx => t = .bool BK ∧ wx = wa)
    case first =>
      by_cases g1 : K < 1
      · obtain rfl : BK = true := by rw [HBK.out]; exact decide_eq_true (Or.inl g1)
        go_wp2_with fail
        go_meet
        exact ⟨rfl, rfl⟩
      · by_cases g2 : 8 < K
        · obtain rfl : BK = true := by rw [HBK.out]; exact decide_eq_true (Or.inr g2)
          go_wp2_with fail
          go_meet
          exact ⟨rfl, rfl⟩
        · obtain rfl : BK = false := by rw [HBK.out]; exact decide_eq_false (by omega)
          go_wp2_with fail
          go_meet
          exact ⟨rfl, rfl⟩
    obtain ⟨rfl, rfl⟩ := hcut
    obtain ⟨wa, rfl⟩ : ∃ x, x = wc := ⟨_, rfl⟩
    cases BK with
    | true =>
      have hf : F = 1 := by
        rw [HF.out, if_pos]
        refine HB.out.2 (Or.inl ?_)
        have h := of_decide_eq_true HBK.out.symm
        rw [← HPK.out]
        unfold prtF
        rw [if_neg (by omega), if_neg (by omega), if_neg (by omega)]
        decide
      subst hf
      go_wp2_with fail
      go_ret
      exact ⟨rfl, HBA.out⟩
    | false =>
    have hK8 := of_decide_eq_false HBK.out.symm
    have hK1 : K = 1 ∨ K = 2 ∨ K = 3 ∨ K = 4 ∨ K = 5 ∨ K = 6 ∨ K = 7 ∨ K = 8 := by omega
    have hp0 : 0 ≤ p := by
      rw [← HPK.out]
      rcases hK1 with rfl | rfl | rfl | rfl | rfl | rfl | rfl | rfl <;> decide
    have HK1 := Lib.hid hK1
    clear hK8 hK1
    go_upto_region 3 with (fail)
    go_cut [3] (fun t wx => t = .int .i64 p ∧ Hid (Below wa.heap.size wa wx))
    case first =>
      have hp := HPK.out
      rcases HK1.out with rfl | rfl | rfl | rfl | rfl | rfl | rfl | rfl
      all_goals
        obtain rfl := hp
        go_wp2_with fail
        go_meet
        exact ⟨rfl, Lib.hid ((Below.refl _ wa).alloc (Nat.le_refl _) _)⟩
    obtain ⟨rfl, HWC⟩ := hcut
    obtain ⟨w2, rfl⟩ : ∃ x, x = wc := ⟨_, rfl⟩
    have HBX2 := Lib.hid ((HWC.out.block bx hbl).trans HBX.out)
    have HB2 := Lib.hid (HBA.out.trans (HWC.out.mono HBA.out.size))
    clear d0 d1 d2 d3 d4 d5
    obtain ⟨⟨d0, d1, d2, d3, d4, d5⟩, -⟩ := bx6 HBX2.out
    have hbl2 : bx < w2.heap.size := (Array.getElem?_eq_some_iff.1 HBX2.out).1
    go_upto_region 4 with (fail)
    go_cut [3, 78] (fun x t wx => t = .bool B ∧ wx = w2)
    case first =>
      go_wp2_with fail
      all_goals
        go_meet
        refine ⟨congrArg Value.bool (Bool.eq_iff_iff.2 (Iff.trans ?_ HB.out.symm)), rfl⟩
        unfold BadC
        first
          | (simp only [decide_eq_true_iff]; omega)
          | (simp only [true_iff]; omega)
          | (simp only [Bool.false_eq_true, false_iff]; omega)
          | (simp only [Bool.or_eq_true, decide_eq_true_iff]; omega)
          | (simp only [Bool.and_eq_true, Bool.or_eq_true, decide_eq_true_iff, Bool.not_eq_true', decide_eq_false_iff_not, bne_iff_ne]; omega)
    obtain ⟨rfl, rfl⟩ := hcut
    obtain ⟨w2, rfl⟩ : ∃ x, x = wc := ⟨_, rfl⟩
    cases B with
    | true =>
      have hf : F = 1 := by rw [HF.out]; exact if_pos rfl
      subst hf
      go_wp2_with fail
      go_ret
      exact ⟨rfl, HB2.out⟩
    | false =>
    have HF1 : Hid (F = if E1 ≠ 0 then E1 else if E2 ≠ 0 then E2 else chL XS) := Lib.hid (by rw [HF.out]; exact if_neg (by decide))
    go_upto_region 7 with (go_at_call 22; refine (HMC.out _ HB2.out).mono ?_; rintro e w3 ⟨rfl, hb3⟩; have HBX3 := Lib.hid ((hb3.block bx hbl2).trans HBX2.out); have HB3 := Lib.hid (HB2.out.trans (hb3.mono HB2.out.size)); clear hb3)
    by_cases g1 : E1 = 0
    case neg =>
      have hf : F = E1 := by rw [HF1.out]; exact if_pos g1
      have t1 : (E1 != 0) = true := by rw [bne_iff_ne]; exact g1
      subst hf
      clear g1
      go_wp2_with fail
      go_ret
      exact ⟨rfl, HB3.out⟩
    subst g1
    have HF2 : Hid (F = if E2 ≠ 0 then E2 else chL XS) := Lib.hid (by rw [HF1.out]; exact if_neg (by decide))
    clear d0 d1 d2 d3 d4 d5
    obtain ⟨⟨-, -, -, -, e4, e5⟩, -⟩ := bx6 HBX3.out
    have hbl3 : bx < w3.heap.size := (Array.getElem?_eq_some_iff.1 HBX3.out).1
    have hlb20 : lb ≤ 1048576 := by rw [← HLB.out]; exact HBD.out
    by_cases g10 : 10 < lb
    · have hf : F = 2 := by
        have h2 : E2 = 2 := by rw [← HE2.out]; exact if_pos (by rw [byL_len, HLB.out]; exact g10)
        rw [HF2.out, h2]
        exact if_pos (by decide)
      subst hf
      go_wp2_with fail
      go_ret
      exact ⟨rfl, HB3.out⟩
    have HE3 : Hid (E2 = goL (prevB BS 0) (byL (BS.drop 0))) := Lib.hid (by rw [← HE2.out]; exact if_neg (by rw [byL_len, HLB.out]; exact g10))
    go_wp2_with fail
    go_loopw [92] (fun i wr => ∃ (k : Nat), k ≤ lb ∧ i = .int .i64 k ∧ Hid (E2 = goL (prevB BS k) (byL (BS.drop k))) ∧ Hid (Below w3.heap.size w3 wr)) (fun i _ => lb - (intOf i).toNat)
    case atStart => exact ⟨0, Nat.zero_le _, rfl, HE3, Lib.hid (Below.refl _ _)⟩
    case round =>
      obtain ⟨k, hk, rfl, HEK, HBR⟩ := hrel
      obtain ⟨wB, rfl⟩ : ∃ x, x = wr := ⟨_, rfl⟩
      have HBXB := Lib.hid ((HBR.out.block bx hbl3).trans HBX3.out)
      have HBB0 := Lib.hid (HB3.out.trans (HBR.out.mono HB3.out.size))
      have hblB : bx < wB.heap.size := (Array.getElem?_eq_some_iff.1 HBXB.out).1
      by_cases hlt : k < lb
      case neg =>
        have g2 : E2 = 0 := by rw [HEK.out, List.drop_of_length_le (by rw [HLB.out]; omega)]; rfl
        clear e4 e5
        have HBX6 := HBXB
        have HB6 := HBB0
        subst g2
        have HF3 : Hid (F = chL XS) := Lib.hid (by rw [HF2.out]; exact if_neg (by decide))
        obtain ⟨⟨-, -, -, -, -, e5⟩, -⟩ := bx6 HBX6.out
        go_wp2_with fail
        go_loopw [116] (fun i wr => ∃ (k : Nat), k ≤ lx ∧ i = .int .i64 k ∧ Hid (F = chL (XS.drop k)) ∧ Hid (Below w.heap.size w wr)) (fun i _ => lx - (intOf i).toNat)
        case atStart => exact ⟨0, Nat.zero_le _, rfl, HF3, HB6⟩
        case round =>
          obtain ⟨j, hj, rfl, HFJ, HBJ⟩ := hrel
          by_cases hjl : j < lx
          case neg =>
            have hf : F = 0 := by rw [HFJ.out, List.drop_of_length_le (by rw [HLX.out]; omega), chL_nil]
            subst hf
            go_wp2_with fail
            go_ret
            exact ⟨rfl, HBJ.out⟩
          obtain ⟨y, hy⟩ : ∃ y, XS[j]? = some y := ⟨_, List.getElem?_eq_getElem (by rw [HLX.out]; exact hjl)⟩
          obtain ⟨b, off, cs, rfl, hy2, -, hck⟩ := (HX.out.below (exD_mono d) HBJ.out).get hy
          obtain ⟨k0, k1, k2, xm, ym, zm, xb, yb, zb, xx, yx, zx, rfl⟩ := exD_shape hy2
          have c0 := hck 0 _ rfl
          have c1 := hck 1 _ rfl
          have c2 := hck 2 _ rfl
          have c3 := hck 3 _ rfl
          have c4 := hck 4 _ rfl
          have c5 := hck 5 _ rfl
          rw [Nat.add_zero] at c0
          obtain ⟨q, hq⟩ : ∃ q, chX y = q := ⟨_, rfl⟩
          have HFK : Hid (F = if q ≠ 0 then q else chL (XS.drop (j + 1))) := Lib.hid (by rw [HFJ.out, drop_at' hy, chL_cons, hq])
          obtain ⟨wb, hwb, -, hbb, -⟩ := box_ex wr (.int .i64 k0) (.int .i64 k1) (.int .i64 k2) (.slice xm ym zm) (.slice xb yb zb) (.slice xx yx zx)
          have HBB := Lib.hid (HBJ.out.trans (hbb.mono HBJ.out.size))
          have HC := Lib.hid (IH.out y (.int .i64 k0) (.int .i64 k1) (.int .i64 k2) (.slice xm ym zm) (.slice xb yb zb) (.slice xx yx zx) wb (exD_mono d _ _ _ _ hy2 hbb))
          rw [hq] at HC
          rw [hwb] at HC HBB
          clear hck hy2 hy hq hwb hbb
          go_wp2_with fail
          refine HC.out.mono ?_
          rintro e w7 ⟨rfl, hb7⟩
          have HB7 := Lib.hid (HBB.out.trans (hb7.mono HBB.out.size))
          clear hb7 c0 c1 c2 c3 c4 c5
          by_cases g3 : q = 0
          case neg =>
            have hf : F = q := by rw [HFK.out]; exact if_pos g3
            have t1 : (q != 0) = true := by rw [bne_iff_ne]; exact g3
            subst hf
            clear g3
            go_wp2_with fail
            go_ret
            exact ⟨rfl, HB7.out⟩
          subst g3
          have HFL : Hid (F = chL (XS.drop (j + 1))) := Lib.hid (by rw [HFK.out]; exact if_neg (by decide))
          go_wp2_with fail
          go_roundw
          case rel => exact ⟨j + 1, by omega, by go_num, HFL, HB7⟩
          case measure => simp [intOf]; omega
      obtain ⟨s, hs⟩ : ∃ s, BS[k]? = some s := ⟨_, List.getElem?_eq_getElem (by rw [HLB.out]; exact hlt)⟩
      have HSB := Lib.hid ((HBS.out.below strR_mono HB3.out).below strR_mono HBR.out)
      obtain ⟨b, off, cs, rfl, ⟨rfl, hsl⟩, -, hck⟩ := HSB.out.get hs
      have c0 := hck 0 _ rfl
      rw [Nat.add_zero, Nat.mul_one] at c0
      have HEN : Hid (E2 = if nameOk s = false then 4 else if badO (prevB BS k) s = true then 5 else goL (some s) (byL (BS.drop (k + 1)))) := Lib.hid (by rw [HEK.out, drop_at' hs, goB])
      have HPN : Hid (prevB BS (k + 1) = some s) := Lib.hid (by unfold prevB; rw [if_neg (by omega), Nat.add_sub_cancel, hs])
      have HNC := Lib.hid (fun w => goodname_any s w (by omega))
      have hcase : (k = 0 ∧ badO (prevB BS k) s = false) ∨ ∃ (j : Nat) (T : ByteArray), k = j + 1 ∧ wB.cell? ⟨b, off + j, none⟩ = some (.string T) ∧ (nameOk s = true → (Op.bytesLess (mkS s).toList T.toList || (mkS s).toList == T.toList) = badO (prevB BS k) s) := by
        by_cases h0 : k = 0
        · exact Or.inl ⟨h0, by rw [h0]; rfl⟩
        · obtain ⟨j, rfl⟩ : ∃ j, k = j + 1 := ⟨k - 1, by omega⟩
          obtain ⟨y, hy⟩ : ∃ y, BS[j]? = some y := ⟨_, List.getElem?_eq_getElem (by rw [HLB.out]; omega)⟩
          obtain ⟨b', off', cs', e', ⟨rfl, -⟩, _, hck'⟩ := HSB.out.get hy
          injection e' with e'
          injection e' with e1 e2
          have d0 := hck' 0 _ rfl
          rw [Nat.add_zero, Nat.mul_one, ← e1, ← e2] at d0
          refine Or.inr ⟨j, _, rfl, d0, fun h => ?_⟩
          have hp : prevB BS (j + 1) = some y := by unfold prevB; rw [if_neg (by omega), Nat.add_sub_cancel, hy]
          rw [hp, mkS_list, mkS_list]
          exact bad_le (some y) (nameOk_all h).1
      generalize hSx : mkS s = S at *
      obtain ⟨Bn, hBn⟩ : ∃ B, nameOk s = B := ⟨_, rfl⟩
      rw [hBn] at HEN HNC hcase
      obtain ⟨O, hO⟩ : ∃ O, badO (prevB BS k) s = O := ⟨_, rfl⟩
      rw [hO] at HEN hcase
      have HCASE := Lib.hid hcase
      obtain ⟨⟨-, -, -, -, f4, -⟩, -⟩ := bx6 HBXB.out
      clear hck hs hBn hO hSx hcase hsl e4 e5
      go_wp2_with fail
      refine (HNC.out _).mono ?_
      rintro e w4 ⟨rfl, hb4⟩
      have HB4 := Lib.hid (HBB0.out.trans (hb4.mono HBB0.out.size))
      have HCB := Lib.hid hb4
      obtain ⟨⟨-, -, -, -, q4, -⟩, -⟩ := bx6 ((hb4.block bx hblB).trans HBXB.out)
      clear hb4 f4
      cases Bn with
      | false =>
        have h4 : F = 4 := by rw [HF2.out, HEN.out, if_pos rfl]; rfl
        subst h4
        go_wp2_with fail
        go_ret
        exact ⟨rfl, HB4.out⟩
      | true =>
      rcases HCASE.out with ⟨rfl, rfl⟩ | ⟨j, T, hkj, d0, hlb⟩
      · have HE5 : Hid (E2 = goL (prevB BS (0 + 1)) (byL (BS.drop (0 + 1)))) := Lib.hid (by rw [HEN.out, if_neg (by decide), if_neg (by decide), HPN.out])
        go_wp2_with fail
        go_roundw
        case rel => exact ⟨0 + 1, by omega, by go_num, HE5, Lib.hid (HBR.out.trans (HCB.out.mono HBR.out.size))⟩
        case measure => simp [intOf]; omega
      have hlb := hlb (by trivial)
      have d0 := (HCB.out.cell (p := ⟨b, off + j, none⟩) (cell_lt d0)).trans d0
      have hkj2 : (k : Int) - 1 = (j : Int) := by omega
      have hw1 : IntKind.i64.wrap ((k : Int) - 1) = (j : Int) := by rw [IntKind.wrap_i64]; omega
      have hw2 : IntKind.i64.wrap (j : Int) = (j : Int) := by rw [IntKind.wrap_i64]; omega
      have hj0 : (0 : Int) ≤ (j : Int) := by omega
      have hj1 : (j : Int) < (lb : Int) := by omega
      have hj2 : j < lb := by omega
      have hk0 : 0 < k := by omega
      have HKJ := Lib.hid hkj
      clear hkj
      generalize hb1 : Op.bytesLess S.toList T.toList = b1 at *
      generalize hb2 : (S.toList == T.toList) = b2 at *
      cases O with
      | true =>
        have h5' : E2 = 5 := by rw [HEN.out, if_neg (by decide), if_pos rfl]
        have h5 : F = 5 := by rw [HF2.out, h5']; exact if_pos (by decide)
        clear h5'
        subst h5
        cases b1 with
        | true =>
          clear hlb
          go_wp2_with fail
          go_ret
          exact ⟨rfl, HB4.out⟩
        | false =>
          obtain rfl : b2 = true := by simpa using hlb
          clear hlb
          go_wp2_with fail
          go_ret
          exact ⟨rfl, HB4.out⟩
      | false =>
        obtain ⟨rfl, rfl⟩ : b1 = false ∧ b2 = false := by simpa using hlb
        have HE5 : Hid (E2 = goL (prevB BS (k + 1)) (byL (BS.drop (k + 1)))) := Lib.hid (by rw [HEN.out, if_neg (by decide), if_neg (by decide), HPN.out])
        clear hlb
        go_wp2_with fail
        go_roundw
        case rel => exact ⟨k + 1, by omega, by go_num, HE5, Lib.hid (HBR.out.trans (HCB.out.mono HBR.out.size))⟩
        case measure => simp [intOf]; omega
end Go.Proofs.YtjmplhkdohlbcaaGreatDoor.Exp
/-
  Contracts of the library at this program, laid by the kit's own tool (in plain words).
-/
namespace Go.Proofs
open Go.Shelf
def YtjmplhkdohlbcaaGreatDoor.laysM173_ren : Go.Shelf.Ren := ⟨fun | 173 => 70 | 246 => 100 | 283 => 126 | 284 => 127 | 285 => 128 | 286 => 129 | 129 => 148 | 317 => 160 | 318 => 161 | 319 => 162 | 320 => 163 | 337 => 185 | 338 => 186 | n => n, fun | 2 => 2 | 3 => 3 | 9 => 9 | 4 => 4 | 171 => 189 | 0 => 0 | 53 => 104 | 37 => 117 | 5 => 5 | 173 => 192 | 212 => 216 | 51 => 173 | 20 => 20 | 213 => 217 | 46 => 165 | 232 => 271 | 233 => 272 | n => n, fun | 17 => 3 | 18 => 6 | 19 => 7 | n => n⟩
theorem YtjmplhkdohlbcaaGreatDoor.laysM173 : Go.Proofs.LaysM.n173 Tryz.prog YtjmplhkdohlbcaaGreatDoor.laysM173_ren := {
  mixed := by kernel_rfl
  f129 := Tryz.func148.trans (congrArg some (by kernel_rfl))
  f173 := Tryz.func70.trans (congrArg some (by kernel_rfl))
  f246 := Tryz.func100.trans (congrArg some (by kernel_rfl))
  f283 := Tryz.func126.trans (congrArg some (by kernel_rfl))
  f284 := Tryz.func127.trans (congrArg some (by kernel_rfl))
  f285 := Tryz.func128.trans (congrArg some (by kernel_rfl))
  f286 := Tryz.func129.trans (congrArg some (by kernel_rfl))
  f317 := Tryz.func160.trans (congrArg some (by kernel_rfl))
  f318 := Tryz.func161.trans (congrArg some (by kernel_rfl))
  f319 := Tryz.func162.trans (congrArg some (by kernel_rfl))
  f320 := Tryz.func163.trans (congrArg some (by kernel_rfl))
  f337 := Tryz.func185.trans (congrArg some (by kernel_rfl))
  f338 := Tryz.func186.trans (congrArg some (by kernel_rfl))
  t0 := Tryz.underlying0
  a0 := Tryz.isAgg0
  z0 := Tryz.sizeOf0
  v0 := Tryz.zeroValue0
  t2 := Tryz.underlying2
  a2 := Tryz.isAgg2
  z2 := Tryz.sizeOf2
  v2 := Tryz.zeroValue2
  t3 := Tryz.underlying3
  a3 := Tryz.isAgg3
  z3 := Tryz.sizeOf3
  v3 := Tryz.zeroValue3
  t4 := Tryz.underlying4
  a4 := Tryz.isAgg4
  z4 := Tryz.sizeOf4
  v4 := Tryz.zeroValue4
  t5 := Tryz.underlying5
  a5 := Tryz.isAgg5
  z5 := Tryz.sizeOf5
  v5 := Tryz.zeroValue5
  t9 := Tryz.underlying9
  a9 := Tryz.isAgg9
  z9 := Tryz.sizeOf9
  v9 := Tryz.zeroValue9
  t20 := Tryz.underlying20
  a20 := Tryz.isAgg20
  z20 := Tryz.sizeOf20
  v20 := Tryz.zeroValue20
  t37 := Tryz.underlying117
  a37 := Tryz.isAgg117
  z37 := Tryz.sizeOf117
  v37 := Tryz.zeroValue117
  t46 := Tryz.underlying165
  a46 := Tryz.isAgg165
  z46 := Tryz.sizeOf165
  v46 := Tryz.zeroValue165
  t51 := Tryz.underlying173
  a51 := Tryz.isAgg173
  z51 := Tryz.sizeOf173
  v51 := Tryz.zeroValue173
  t53 := Tryz.underlying104
  a53 := Tryz.isAgg104
  z53 := Tryz.sizeOf104
  v53 := Tryz.zeroValue104
  t171 := Tryz.underlying189
  a171 := Tryz.isAgg189
  z171 := Tryz.sizeOf189
  v171 := Tryz.zeroValue189
  t173 := Tryz.underlying192
  a173 := Tryz.isAgg192
  z173 := Tryz.sizeOf192
  v173 := Tryz.zeroValue192
  t212 := Tryz.underlying216
  a212 := Tryz.isAgg216
  z212 := Tryz.sizeOf216
  v212 := Tryz.zeroValue216
  t213 := Tryz.underlying217
  a213 := Tryz.isAgg217
  z213 := Tryz.sizeOf217
  t232 := Tryz.underlying271
  a232 := Tryz.isAgg271
  z232 := Tryz.sizeOf271
  v232 := Tryz.zeroValue271
  t233 := Tryz.underlying272
  a233 := Tryz.isAgg272
  z233 := Tryz.sizeOf272
  v233 := Tryz.zeroValue272
  g17 := by kernel_rfl
  g18 := by kernel_rfl
  g19 := by kernel_rfl
  i0 := by kernel_rfl
  i2 := by kernel_rfl
  i3 := by kernel_rfl
  i4 := by kernel_rfl
  i5 := by kernel_rfl
  i9 := by kernel_rfl
  i20 := by kernel_rfl
  i37 := by kernel_rfl
  i46 := by kernel_rfl
  i51 := by kernel_rfl
  i53 := by kernel_rfl
  i171 := by kernel_rfl
  i173 := by kernel_rfl
  i212 := by kernel_rfl
  i232 := by kernel_rfl
  i233 := by kernel_rfl
  m17 := by kernel_rfl
  m18 := by kernel_rfl
  m19 := by kernel_rfl }
open Go.RowKit Go.Sort Go.Lib in
theorem YtjmplhkdohlbcaaGreatDoor.strconv_FormatInt_10 (n : Int) (h0 : -9223372036854775808 ≤ n) (h1 : n ≤ 9223372036854775807) (w : World) (htab : Lib.TabIs Tryz.prog w "internal/strconv.uint64pow10" .u64 Lib.pow10Tab) :
    Calls Tryz.prog 70 #[.int .i64 n, .int .i64 10] w fun e w' => e = .returned (.string ⟨(Lib.itoa n).toArray⟩) ∧ ∃ k os, w' = grow (w.drewN k) os := Any.strconv_FormatInt_10 YtjmplhkdohlbcaaGreatDoor.laysM173 n h0 h1 w htab
end Go.Proofs
/-
  Expressions: FormatInt, Join at names, the walk of text (PRINTED by mkex5.py).
-/
namespace Go.Proofs.YtjmplhkdohlbcaaGreatDoor.Exp
open Go.RowKit Go.Gh Go.Proofs.YtjmplhkdohlbcaaGreatDoor.Lab
set_option linter.unusedVariables false
set_option linter.unusedSimpArgs false
def WTab (w : World) : Prop := ∀ k : Nat, k < 9 → w.cell? ⟨1, k, none⟩ = some (.string (mkS (wrd k)))
theorem WTab.below {w w' : World} (h : WTab w) (hb : Below w.heap.size w w') : WTab w' := fun k hk => (hb.cell (p := ⟨1, k, none⟩) (cell_lt (h k hk))).trans (h k hk)
def PTab (w : World) : Prop := Lib.TabIs Tryz.prog w "internal/strconv.uint64pow10" .u64 Lib.pow10Tab
theorem PTab.below {w w' : World} (h : PTab w) (hb : Below w.heap.size w w') : PTab w' := Lib.tabBelow_of_tabIs h w' hb
theorem format_any (n : Int) (h0 : -9223372036854775808 ≤ n) (h1 : n < 9223372036854775808) (w : World) (hP : PTab w) : Calls Tryz.prog 70 #[.int .i64 n, .int .i64 10] w fun e w' => e = .returned (.string (mkS (Lib.itoa n))) ∧ Below w.heap.size w w' := by
  refine (YtjmplhkdohlbcaaGreatDoor.strconv_FormatInt_10 n h0 (by omega) w hP).mono ?_
  rintro e w' ⟨rfl, k, os, rfl⟩
  exact ⟨rfl, Lib.below_grow _ _ (Nat.le_refl _) _ _⟩
theorem join_any (ab : Option Addr) (lb cb : Nat) (BS : List By) (w : World) (hs : Sp StrR 1 w (.slice ab lb cb) BS) (hl : BS.length = lb) (h10 : lb ≤ 10) (h20 : ∀ s ∈ BS, s.length ≤ 20) : Calls Tryz.prog 68 #[.slice ab lb cb, .string ⟨#[44]⟩] w fun e w' => e = .returned (.string (mkS (commas BS))) ∧ Below w.heap.size w w' := by
  have hle : (commas BS).length ≤ 1050 := by
    have := commas_le BS (fun x hx => by have := h20 x hx; omega)
    omega
  have HL : commas BS = Lib.join ((BS.map mkS).map (·.data.toList)) (⟨#[44]⟩ : ByteArray).data.toList := by
    rw [commas_join, List.map_map]
    congr 1
    exact (List.map_id'' (fun x => rfl) BS).symm
  rcases Nat.eq_zero_or_pos lb with h0 | h0
  · have hB0 : BS = [] := List.length_eq_zero_iff.1 (hl.trans h0)
    rw [h0]
    refine (YtjmplhkdohlbcaaGreatDoor.strings_Join_none ab cb ⟨#[44]⟩ w).mono ?_
    rintro e w' ⟨rfl, rfl⟩
    exact ⟨by rw [hB0]; rfl, Below.refl _ _⟩
  · obtain ⟨s0, hs0⟩ : ∃ s, BS[0]? = some s := ⟨_, List.getElem?_eq_getElem (by omega)⟩
    obtain ⟨b, off, cs, rfl, ⟨rfl, -⟩, -, hc0⟩ := hs.get hs0
    have hbk : b < w.heap.size := cell_lt (hc0 0 _ rfl)
    have hcells : ∀ (j : Nat) y, (BS.map mkS)[j]? = some y → w.cell? ⟨b, off + j, none⟩ = some (.string y) := by
      intro j y hj
      rw [List.getElem?_map] at hj
      obtain ⟨s, hsj, rfl⟩ := Option.map_eq_some_iff.1 hj
      obtain ⟨b', off', cs', e', ⟨rfl, -⟩, -, hc⟩ := hs.get hsj
      injection e' with e'
      injection e' with e1 e2
      have := hc 0 _ rfl
      rw [Nat.add_zero, Nat.mul_one, ← e1, ← e2] at this
      exact this
    have hxl : (BS.map mkS).length = lb := by rw [List.length_map, hl]
    obtain ⟨ao, c, e, h1, h2⟩ := hs.shape
    injection e with e1 e2 e3
    have h := YtjmplhkdohlbcaaGreatDoor.strings_Join b off cb (BS.map mkS) ⟨#[44]⟩ w hcells hbk (by rw [hxl]; omega) (by rw [hxl]; omega) (by rw [← HL]; omega)
    rw [hxl, ← HL] at h
    refine h.mono ?_
    rintro e w' ⟨rfl, hb⟩
    exact ⟨rfl, hb⟩
theorem one_of {L : List Ex} (h : L.length = 1) : ∃ y, L = [y] := by
  match L, h with
  | [y], _ => exact ⟨y, rfl⟩
theorem two_of {L : List Ex} (h : L.length = 2) : ∃ y z, L = [y, z] := by
  match L, h with
  | [y, z], _ => exact ⟨y, z, rfl⟩
def TxO (vy vz : Value) (Ty Tz : ByteArray) (v : Value) (T : ByteArray) : Prop := v = vy ∧ T = Ty ∨ v = vz ∧ T = Tz
set_option maxHeartbeats 16000000 in
set_option maxRecDepth 100000 in
theorem text_any (d : Nat) : ∀ (x : Ex) (u0 u1 u2 u3 u4 u5 : Value) (w : World), ExD d w x [u0, u1, u2, u3, u4, u5] → chX x = 0 → szX x ≤ 100 → STab w → WTab w → PTab w → Calls Tryz.prog 41 #[.agg #[u0, u1, u2, u3, u4, u5]] w fun e w' => e = .returned (.string (mkS (txX x))) ∧ Below w.heap.size w w' := by
  induction d with
  | zero => intro x u0 u1 u2 u3 u4 u5 w h; exact h.elim
  | succ d ih =>
    intro x u0 u1 u2 u3 u4 u5 w h hch hsz hT hWT hPT
    have hnum := exD_num _ _ _ _ h
    have hlen := txX_len _ x (Nat.le_refl _) hnum hch
    obtain ⟨vm, vb, vx, hc, hm, hb, hx, hbd, bk1, bk2, bn1, bn2, bw1, bw2⟩ := h
    simp only [List.cons.injEq, and_true] at hc
    obtain ⟨rfl, rfl, rfl, rfl, rfl, rfl⟩ := hc
    obtain ⟨hbad, hmf, hlf, hcl⟩ := chX_ok hch
    obtain ⟨hby1, hby2⟩ := byL_ok hlf
    have htx := txX_eq x
    have hsx := szX_eq x
    obtain ⟨lm, hlm⟩ : ∃ n, x.ms.length = n := ⟨_, rfl⟩
    obtain ⟨lb, hlb⟩ : ∃ n, x.bs.length = n := ⟨_, rfl⟩
    obtain ⟨lx, hlx⟩ : ∃ n, x.xs.length = n := ⟨_, rfl⟩
    have hnb : ¬ BadC (prtF x.kd) x.kd x.n x.wd x.ms.length x.bs.length x.xs.length := hbad
    rw [hlm, hlb, hlx] at hnb
    obtain ⟨am, cm, rfl, hm1, hm2⟩ := hm.shapeN hlm
    obtain ⟨ab, cb, rfl, hb1, hb2⟩ := hb.shapeN hlb
    obtain ⟨ax, cx, rfl, hx1, hx2⟩ := hx.shapeN hlx
    obtain ⟨R, hR⟩ : ∃ R, mkS (txX x) = R := ⟨_, rfl⟩
    rw [htx] at hR hlen
    rw [htx, hR]
    obtain ⟨MS, hMS⟩ : ∃ E, x.ms = E := ⟨_, rfl⟩
    obtain ⟨BS, hBS⟩ : ∃ E, x.bs = E := ⟨_, rfl⟩
    obtain ⟨XS, hXS⟩ : ∃ E, x.xs = E := ⟨_, rfl⟩
    obtain ⟨K, hK⟩ : ∃ K, x.kd = K := ⟨_, rfl⟩
    obtain ⟨N, hN⟩ : ∃ K, x.n = K := ⟨_, rfl⟩
    obtain ⟨W, hW⟩ : ∃ K, x.wd = K := ⟨_, rfl⟩
    rw [hMS] at hm hmf hR hlen
    rw [hBS] at hb hlb hby1 hby2 hlf hR hlen
    rw [hXS] at hx hlx hcl hsx hR hlen
    rw [hK] at hR hlen hnb bk1 bk2
    rw [hN] at hR hlen hnb bn1 bn2
    rw [hW] at hR hlen hnb bw1 bw2
    rw [hK, hN, hW]
    have HPA := Lib.hid (fun w => parts_any K w)
    have hcase : (K = 1 ∧ prtF K = 0) ∨ (K = 2 ∧ prtF K = 0) ∨ (3 ≤ K ∧ K ≤ 5 ∧ prtF K = 1 ∧ lx = 1) ∨ (6 ≤ K ∧ K ≤ 8 ∧ prtF K = 2 ∧ lx = 2) := by
      have h1 : ¬ prtF K < 0 := fun h => hnb (Or.inl h)
      have h2 : (lx : Int) = prtF K := Classical.byContradiction fun h => hnb (Or.inr (Or.inl h))
      unfold prtF at h1 h2 ⊢
      by_cases g1 : K = 1
      · exact Or.inl ⟨g1, if_pos (Or.inl g1)⟩
      by_cases g2 : K = 2
      · exact Or.inr (Or.inl ⟨g2, if_pos (Or.inr g2)⟩)
      rw [if_neg (by omega)] at h1 h2
      by_cases g3 : K = 3 ∨ K = 4 ∨ K = 5
      · rw [if_pos g3] at h2
        exact Or.inr (Or.inr (Or.inl ⟨by omega, by omega, by rw [if_neg (by omega), if_pos g3], by omega⟩))
      · rw [if_neg g3] at h1 h2
        by_cases g4 : K = 6 ∨ K = 7 ∨ K = 8
        · rw [if_pos g4] at h2
          exact Or.inr (Or.inr (Or.inr ⟨by omega, by omega, by rw [if_neg (by omega), if_neg g3, if_pos g4], by omega⟩))
        · rw [if_neg g4] at h1
          omega
    obtain ⟨wa, hwa, hbox, hba, hsa⟩ := box_ex w (.int .i64 K) (.int .i64 N) (.int .i64 W) (.slice am lm cm) (.slice ab lb cb) (.slice ax lx cx)
    have HWA := Lib.hid hwa
    have HBA := Lib.hid hba
    obtain ⟨⟨d0, d1, d2, d3, d4, d5⟩, -⟩ := bx6 hbox
    obtain ⟨bx, hbx⟩ : ∃ bx, w.heap.size = bx := ⟨_, rfl⟩
    rw [hbx] at d0 d1 d2 d3 d4 d5 hbox
    have HBX := Lib.hid hbox
    have HBE := Lib.hid hbx
    have HCASE := Lib.hid hcase
    have HR := Lib.hid hR
    have HLEN := Lib.hid hlen
    have HM := Lib.hid (hm.below mtR_mono hba)
    have HB := Lib.hid (hb.below strR_mono hba)
    have HX := Lib.hid (hx.below (exD_mono d) hba)
    have HTA := Lib.hid (hT.below hba)
    have HWT := Lib.hid (hWT.below hba)
    have HPT := Lib.hid (hPT.below hba)
    have HCL := Lib.hid hcl
    have HSX := Lib.hid hsx
    have HSZ := Lib.hid hsz
    have HIH := Lib.hid ih
    have HLB := Lib.hid hlb
    have HLX := Lib.hid hlx
    have HBY2 := Lib.hid hby2
    have HMF := Lib.hid hmf
    have hlb10 : lb ≤ 10 := by rw [← hlb]; exact hby1
    have hbl : bx < wa.heap.size := (Array.getElem?_eq_some_iff.1 hbox).1
    clear hbx hnum hch hsz hT hWT hPT hbad hlf hbd hby1 hby2 htx hsx hlm hnb hm hb hx hMS hBS hXS hK hN hW hwa hba hsa hbox hcase hR hlen hcl ih hlb hlx hmf
    rcases HCASE.out with ⟨rfl, hp⟩ | ⟨rfl, hp⟩ | ⟨k3, k5, hp, rfl⟩ | ⟨k6, k8, hp, rfl⟩
    · rw [hp] at HPA
      have HFI := Lib.hid (format_any N bn1 bn2 wa HPT.out)
      have HRR : Hid (mkS (Lib.itoa N) = R) := Lib.hid (by rw [← HR.out]; rfl)
      rw [HRR.out] at HFI
      clear hp
      go_enter Tryz.func41, Tryz.ntmps41
      go_upto_region 1 with (fail)
      rw [HBE.out, ← HWA.out]
      go_wp2_with (first
        | (go_at_call 69; refine (HPA.out _).mono ?_; rintro e w2 ⟨rfl, rfl⟩)
        | (go_at_call 70; refine HFI.out.mono ?_; rintro e w2 ⟨rfl, hb2⟩; have HB2 := Lib.hid (HBA.out.trans (hb2.mono HBA.out.size)); clear hb2))
      go_ret
      exact ⟨rfl, HB2.out⟩
    · rw [hp] at HPA
      have HMT := mtt_any _ MS wa HM.out HTA.out
      rw [HMF.out] at HMT
      have HMT2 := Lib.hid HMT
      have HFI := Lib.hid (fun W2 (h : Below wa.heap.size wa W2) => format_any W bw1 bw2 W2 (HPT.out.below h))
      obtain ⟨A, hA⟩ : ∃ A, A = mkS (textM MS) := ⟨_, rfl⟩
      obtain ⟨I, hI⟩ : ∃ A, A = mkS (Lib.itoa W) := ⟨_, rfl⟩
      have HRR : Hid (A ++ ⟨#[91]⟩ ++ I ++ ⟨#[93]⟩ = R) := Lib.hid (by
        rw [← HR.out, hA, hI]
        show mkS _ ++ mkS [91] ++ mkS _ ++ mkS [93] = mkS (textM MS ++ (91 :: (Lib.itoa W ++ [93])))
        rw [mkS_app, mkS_app, mkS_app]
        congr 1
        simp)
      have hA1 : A.size ≤ 1060 := by rw [hA, mkS_size]; exact textM_le HMF.out
      have hI1 : I.size ≤ 20 := by rw [hI, mkS_size]; exact itoa_len bw1 bw2
      have s1 : A.size + 1 ≤ 9223372036854775807 := by omega
      have s2 : A.size + 1 + I.size ≤ 9223372036854775807 := by omega
      have s3 : A.size + 1 + I.size + 1 ≤ 9223372036854775807 := by omega
      rw [← hI] at HFI
      have HA := Lib.hid hA
      clear hp HMT hA hI
      go_enter Tryz.func41, Tryz.ntmps41
      go_upto_region 1 with (fail)
      rw [HBE.out, ← HWA.out]
      go_wp2_with (first
        | (go_at_call 69; refine (HPA.out _).mono ?_; rintro e w2 ⟨rfl, rfl⟩)
        | (go_at_call 20; refine HMT2.out.mono ?_; rintro e w2 ⟨rfl, hb2⟩; rw [if_pos rfl, ← HA.out]; have HB2 := Lib.hid (HBA.out.trans (hb2.mono HBA.out.size)); obtain ⟨⟨-, -, q2, -, -, -⟩, -⟩ := bx6 ((hb2.block bx hbl).trans HBX.out); have HFI2 := Lib.hid (HFI.out w2 hb2); clear hb2)
        | (go_at_call 70; refine HFI2.out.mono ?_; rintro e w3 ⟨rfl, hb3⟩; have HB3 := Lib.hid (HB2.out.trans (hb3.mono HB2.out.size)); clear hb3))
      go_ret
      exact ⟨by rw [HRR.out]; rfl, HB3.out⟩
    · rw [hp] at HPA
      obtain ⟨y, rfl⟩ := one_of HLX.out
      have hzy : szX y ≤ 99 := by have h1 := HSX.out; have h2 := HSZ.out; rw [szL_cons, szL_nil] at h1; omega
      have hcy : chX y = 0 := chL_at HCL.out (k := 0) rfl
      obtain ⟨b, off, cs, hax, hy2, -, hck⟩ := HX.out.get (i := 0) (a := y) rfl
      obtain ⟨y0, y1, y2, y3, y4, y5, y6, y7, y8, y9, yA, yB, rfl⟩ := exD_shape hy2
      have c0 := hck 0 _ rfl
      have c1 := hck 1 _ rfl
      have c2 := hck 2 _ rfl
      have c3 := hck 3 _ rfl
      have c4 := hck 4 _ rfl
      have c5 := hck 5 _ rfl
      simp only [Nat.zero_mul, Nat.add_zero] at c0 c1 c2 c3 c4 c5
      subst hax
      have HTY := Lib.hid (fun W2 (h : Below wa.heap.size wa W2) => HIH.out y (.int .i64 y0) (.int .i64 y1) (.int .i64 y2) (.slice y3 y4 y5) (.slice y6 y7 y8) (.slice y9 yA yB) W2 (exD_mono d _ _ _ _ hy2 h) hcy (by omega) (HTA.out.below h) (HWT.out.below h) (HPT.out.below h))
      have hty : (txX y).length ≤ 200000 := by
        have := txX_len _ y (Nat.le_refl _) (exD_num _ _ _ _ hy2) hcy
        omega
      obtain ⟨kk, rfl⟩ : ∃ kk : Nat, K = kk := ⟨K.toNat, by omega⟩
      have hkk : kk < 9 := by omega
      have hw := HWT.out kk hkk
      obtain ⟨Wd, hWd⟩ : ∃ A, A = mkS (wrd kk) := ⟨_, rfl⟩
      obtain ⟨Ty, hTy⟩ : ∃ A, A = mkS (txX y) := ⟨_, rfl⟩
      have hWd1 : Wd.size ≤ 5 := by rw [hWd, mkS_size]; exact wrd_le _
      have hTy1 : Ty.size ≤ 200000 := by rw [hTy, mkS_size]; exact hty
      rw [← hWd] at hw
      rw [← hTy] at HTY
      have hRR : R = mkS (wrd kk ++ (byT BS ++ (40 :: (txX y ++ [41])))) := by
        rw [← HR.out]
        unfold asmX
        rw [if_neg (by omega), if_neg (by omega), if_pos (by omega), txL_cons]
        rfl
      by_cases hlb0 : lb = 0
      · subst hlb0
        have hB0 : BS = [] := List.length_eq_zero_iff.1 HLB.out
        have HRR : Hid (Wd ++ ⟨#[40]⟩ ++ Ty ++ ⟨#[41]⟩ = R) := Lib.hid (by
          rw [hRR, hB0, hWd, hTy]
          show mkS _ ++ mkS [40] ++ mkS _ ++ mkS [41] = _
          rw [mkS_app, mkS_app, mkS_app]
          congr 1
          simp [byT])
        have s1 : Wd.size + 1 ≤ 9223372036854775807 := by omega
        have s2 : Wd.size + 1 + Ty.size ≤ 9223372036854775807 := by omega
        have s3 : Wd.size + 1 + Ty.size + 1 ≤ 9223372036854775807 := by omega
        clear hB0 hRR hWd hTy hp hck hy2 hcy hzy hty
        go_enter Tryz.func41, Tryz.ntmps41
        go_upto_region 1 with (fail)
        rw [HBE.out, ← HWA.out]
        go_wp2_with (first
          | (go_at_call 69; refine (HPA.out _).mono ?_; rintro e w2 ⟨rfl, rfl⟩)
          | (go_at_call 41; refine (HTY.out _ (Below.refl _ _)).mono ?_; rintro e w2 ⟨rfl, hb2⟩; have HB2 := Lib.hid (HBA.out.trans (hb2.mono HBA.out.size)); clear hb2))
        go_ret
        exact ⟨by rw [HRR.out]; rfl, HB2.out⟩
      · have hlb1 : 0 < lb := by omega
        obtain ⟨J, hJ⟩ : ∃ A, A = mkS (commas BS) := ⟨_, rfl⟩
        have hJ1 : J.size ≤ 1050 := by
          rw [hJ, mkS_size]
          have := commas_le BS (fun x hx => by have := HBY2.out x hx; omega)
          have := HLB.out
          omega
        have HJO := Lib.hid (join_any ab lb cb BS wa HB.out HLB.out hlb10 HBY2.out)
        rw [← hJ] at HJO
        have HRR : Hid (Wd ++ (⟨#[32, 98, 121, 32]⟩ ++ J) ++ ⟨#[40]⟩ ++ Ty ++ ⟨#[41]⟩ = R) := Lib.hid (by
          have hb : byT BS = [32, 98, 121, 32] ++ commas BS := by
            have := HLB.out
            match BS, this with
            | s :: r, _ => rfl
            | [], h => exact absurd h (by simp; omega)
          rw [hRR, hb, hWd, hTy, hJ]
          show mkS _ ++ (mkS [32, 98, 121, 32] ++ mkS _) ++ mkS [40] ++ mkS _ ++ mkS [41] = _
          rw [mkS_app, mkS_app, mkS_app, mkS_app, mkS_app]
          congr 1
          simp)
        have s0 : 4 + J.size ≤ 9223372036854775807 := by omega
        have s1 : Wd.size + (4 + J.size) ≤ 9223372036854775807 := by omega
        have s2 : Wd.size + (4 + J.size) + 1 ≤ 9223372036854775807 := by omega
        have s3 : Wd.size + (4 + J.size) + 1 + Ty.size ≤ 9223372036854775807 := by omega
        have s4 : Wd.size + (4 + J.size) + 1 + Ty.size + 1 ≤ 9223372036854775807 := by omega
        have HC0 := Lib.hid c0
        have HKC := Lib.hid (fun (W2 : World) (h : Below wa.heap.size wa W2) => (And.intro ((h.cell (p := ⟨b, off, none⟩) (cell_lt c0)).trans c0) (And.intro ((h.cell (p := ⟨b, off + 1, none⟩) (cell_lt c0)).trans c1) (And.intro ((h.cell (p := ⟨b, off + 2, none⟩) (cell_lt c0)).trans c2) (And.intro ((h.cell (p := ⟨b, off + 3, none⟩) (cell_lt c0)).trans c3) (And.intro ((h.cell (p := ⟨b, off + 4, none⟩) (cell_lt c0)).trans c4) ((h.cell (p := ⟨b, off + 5, none⟩) (cell_lt c0)).trans c5)))))))
        clear hRR hWd hTy hJ hp hck hy2 hcy hzy hty
        go_enter Tryz.func41, Tryz.ntmps41
        go_upto_region 1 with (fail)
        rw [HBE.out, ← HWA.out]
        go_wp2_with (first
          | (go_at_call 69; refine (HPA.out _).mono ?_; rintro e w2 ⟨rfl, rfl⟩)
          | (go_at_call 68; refine HJO.out.mono ?_; rintro e w2 ⟨rfl, hb2⟩; have HB2 := Lib.hid (HBA.out.trans (hb2.mono HBA.out.size)); have HBW := Lib.hid hb2; obtain ⟨⟨-, -, -, -, -, q5⟩, -⟩ := bx6 ((hb2.block bx hbl).trans HBX.out); obtain ⟨e0, e1, e2, e3, e4, e5⟩ := HKC.out _ hb2; clear hb2)
          | (go_at_call 41; refine (HTY.out _ HBW.out).mono ?_; rintro e w3 ⟨rfl, hb3⟩; have HB3 := Lib.hid (HB2.out.trans (hb3.mono HB2.out.size)); clear hb3))
        go_ret
        exact ⟨by rw [HRR.out]; rfl, HB3.out⟩
    · rw [hp] at HPA
      obtain ⟨y, z, rfl⟩ := two_of HLX.out
      have hsum : szX y + szX z ≤ 99 := by have h1 := HSX.out; have h2 := HSZ.out; rw [szL_cons, szL_cons, szL_nil] at h1; omega
      have hcy : chX y = 0 := chL_at HCL.out (k := 0) rfl
      have hcz : chX z = 0 := chL_at HCL.out (k := 1) rfl
      obtain ⟨b, off, cs, hax, hy2, -, hck⟩ := HX.out.get (i := 0) (a := y) rfl
      obtain ⟨b', off', cs', hax', hz2, -, hck'⟩ := HX.out.get (i := 1) (a := z) rfl
      obtain ⟨y0, y1, y2, y3, y4, y5, y6, y7, y8, y9, yA, yB, rfl⟩ := exD_shape hy2
      obtain ⟨z0, z1, z2, z3, z4, z5, z6, z7, z8, z9, zA, zB, rfl⟩ := exD_shape hz2
      rw [hax] at hax'
      injection hax' with hax'
      injection hax' with e1 e2
      subst e1 e2
      have c0 := hck 0 _ rfl
      have c1 := hck 1 _ rfl
      have c2 := hck 2 _ rfl
      have c3 := hck 3 _ rfl
      have c4 := hck 4 _ rfl
      have c5 := hck 5 _ rfl
      have g0 := hck' 0 _ rfl
      have g1 := hck' 1 _ rfl
      have g2 := hck' 2 _ rfl
      have g3 := hck' 3 _ rfl
      have g4 := hck' 4 _ rfl
      have g5 := hck' 5 _ rfl
      simp only [Nat.zero_mul, Nat.one_mul, Nat.add_zero] at c0 c1 c2 c3 c4 c5 g0 g1 g2 g3 g4 g5
      subst hax
      have hty : (txX y).length ≤ 200000 := by
        have := txX_len _ y (Nat.le_refl _) (exD_num _ _ _ _ hy2) hcy
        omega
      have htz : (txX z).length ≤ 200000 := by
        have := txX_len _ z (Nat.le_refl _) (exD_num _ _ _ _ hz2) hcz
        omega
      have HTO : Hid (∀ v T W2, TxO (.agg #[.int .i64 y0, .int .i64 y1, .int .i64 y2, .slice y3 y4 y5, .slice y6 y7 y8, .slice y9 yA yB]) (.agg #[.int .i64 z0, .int .i64 z1, .int .i64 z2, .slice z3 z4 z5, .slice z6 z7 z8, .slice z9 zA zB]) (mkS (txX y)) (mkS (txX z)) v T → Below wa.heap.size wa W2 → Calls Tryz.prog 41 #[v] W2 fun e w' => e = .returned (.string T) ∧ Below W2.heap.size W2 w') := Lib.hid (by
        intro v T W2 hv h
        rcases hv with ⟨rfl, rfl⟩ | ⟨rfl, rfl⟩
        · exact HIH.out y (.int .i64 y0) (.int .i64 y1) (.int .i64 y2) (.slice y3 y4 y5) (.slice y6 y7 y8) (.slice y9 yA yB) W2 (exD_mono d _ _ _ _ hy2 h) hcy (by omega) (HTA.out.below h) (HWT.out.below h) (HPT.out.below h)
        · exact HIH.out z (.int .i64 z0) (.int .i64 z1) (.int .i64 z2) (.slice z3 z4 z5) (.slice z6 z7 z8) (.slice z9 zA zB) W2 (exD_mono d _ _ _ _ hz2 h) hcz (by omega) (HTA.out.below h) (HWT.out.below h) (HPT.out.below h))
      have B1 : Hid (TxO (.agg #[.int .i64 y0, .int .i64 y1, .int .i64 y2, .slice y3 y4 y5, .slice y6 y7 y8, .slice y9 yA yB]) (.agg #[.int .i64 z0, .int .i64 z1, .int .i64 z2, .slice z3 z4 z5, .slice z6 z7 z8, .slice z9 zA zB]) (mkS (txX y)) (mkS (txX z)) (.agg #[.int .i64 y0, .int .i64 y1, .int .i64 y2, .slice y3 y4 y5, .slice y6 y7 y8, .slice y9 yA yB]) (mkS (txX y))) := Lib.hid (Or.inl ⟨rfl, rfl⟩)
      have B2 : Hid (TxO (.agg #[.int .i64 y0, .int .i64 y1, .int .i64 y2, .slice y3 y4 y5, .slice y6 y7 y8, .slice y9 yA yB]) (.agg #[.int .i64 z0, .int .i64 z1, .int .i64 z2, .slice z3 z4 z5, .slice z6 z7 z8, .slice z9 zA zB]) (mkS (txX y)) (mkS (txX z)) (.agg #[.int .i64 z0, .int .i64 z1, .int .i64 z2, .slice z3 z4 z5, .slice z6 z7 z8, .slice z9 zA zB]) (mkS (txX z))) := Lib.hid (Or.inr ⟨rfl, rfl⟩)
      obtain ⟨kk, rfl⟩ : ∃ kk : Nat, K = kk := ⟨K.toNat, by omega⟩
      have hkk : kk < 9 := by omega
      have hw := HWT.out kk hkk
      obtain ⟨Wd, hWd⟩ : ∃ A, A = mkS (wrd kk) := ⟨_, rfl⟩
      obtain ⟨Ty, hTy⟩ : ∃ A, A = mkS (txX y) := ⟨_, rfl⟩
      obtain ⟨Tz, hTz⟩ : ∃ A, A = mkS (txX z) := ⟨_, rfl⟩
      have hWd1 : Wd.size ≤ 5 := by rw [hWd, mkS_size]; exact wrd_le _
      have hTy1 : Ty.size ≤ 200000 := by rw [hTy, mkS_size]; exact hty
      have hTz1 : Tz.size ≤ 200000 := by rw [hTz, mkS_size]; exact htz
      have HRR : Hid (⟨#[40]⟩ ++ Ty ++ Wd ++ Tz ++ ⟨#[41]⟩ = R) := Lib.hid (by
        rw [← HR.out]
        unfold asmX
        rw [if_neg (by omega), if_neg (by omega), if_neg (by omega), txL_cons, txL_cons, hWd, hTy, hTz]
        show mkS [40] ++ mkS _ ++ mkS _ ++ mkS _ ++ mkS [41] = mkS (40 :: (txX y ++ (wrd kk ++ (txX z ++ [41]))))
        rw [mkS_app, mkS_app, mkS_app, mkS_app]
        congr 1
        simp)
      rw [← hWd] at hw
      rw [← hTy, ← hTz] at HTO B1 B2
      have s1 : (9223372036854775807 < 1 + Ty.size) = False := eq_false (by omega)
      have s2 : (9223372036854775807 < 1 + Ty.size + Wd.size) = False := eq_false (by omega)
      have s3 : (9223372036854775807 < 1 + Ty.size + Wd.size + Tz.size) = False := eq_false (by omega)
      have s4 : (9223372036854775807 < 1 + Ty.size + Wd.size + Tz.size + 1) = False := eq_false (by omega)
      have HKC := Lib.hid (fun (W2 : World) (h : Below wa.heap.size wa W2) => And.intro ((h.cell (p := ⟨bx, 5, none⟩) hbl).trans d5) (And.intro ((h.cell (p := ⟨bx, 0, none⟩) hbl).trans d0) (And.intro ((h.cell (p := ⟨1, kk, none⟩) (cell_lt hw)).trans hw) (And.intro ((h.cell (p := ⟨b, off, none⟩) (cell_lt c0)).trans c0) (And.intro ((h.cell (p := ⟨b, off + 1, none⟩) (cell_lt c0)).trans c1) (And.intro ((h.cell (p := ⟨b, off + 2, none⟩) (cell_lt c0)).trans c2) (And.intro ((h.cell (p := ⟨b, off + 3, none⟩) (cell_lt c0)).trans c3) (And.intro ((h.cell (p := ⟨b, off + 4, none⟩) (cell_lt c0)).trans c4) (And.intro ((h.cell (p := ⟨b, off + 5, none⟩) (cell_lt c0)).trans c5) (And.intro ((h.cell (p := ⟨b, off + 6, none⟩) (cell_lt c0)).trans g0) (And.intro ((h.cell (p := ⟨b, off + 6 + 1, none⟩) (cell_lt c0)).trans g1) (And.intro ((h.cell (p := ⟨b, off + 6 + 2, none⟩) (cell_lt c0)).trans g2) (And.intro ((h.cell (p := ⟨b, off + 6 + 3, none⟩) (cell_lt c0)).trans g3) (And.intro ((h.cell (p := ⟨b, off + 6 + 4, none⟩) (cell_lt c0)).trans g4) ((h.cell (p := ⟨b, off + 6 + 5, none⟩) (cell_lt c0)).trans g5)))))))))))))))
      have HB0 := Lib.hid (Below.refl wa.heap.size wa)
      have kk0 : (0 : Int) ≤ (kk : Int) := by omega
      have kk9 : (kk : Int) < 9 := by omega
      have HB0d := Lib.hid (Below.refl wa.heap.size wa).drew
      clear hWd hTy hTz hp hck hck' hy2 hz2 hcy hcz hsum hty htz
      go_enter Tryz.func41, Tryz.ntmps41
      go_upto_region 1 with (fail)
      rw [HBE.out, ← HWA.out]
      go_upto_region 8 with (go_at_call 69; refine (HPA.out _).mono ?_; rintro e w2 ⟨rfl, rfl⟩)
      go_region_held3 (fun w' => w'.cell? ⟨bx, 5, none⟩ = some (.slice (some ⟨b, off, none⟩) 2 cx) ∧ w'.cell? ⟨bx, 0, none⟩ = some (.int .i64 kk) ∧ w'.cell? ⟨1, kk, none⟩ = some (.string Wd) ∧ w'.cell? ⟨b, off, none⟩ = some (.int .i64 y0) ∧ w'.cell? ⟨b, off + 1, none⟩ = some (.int .i64 y1) ∧ w'.cell? ⟨b, off + 2, none⟩ = some (.int .i64 y2) ∧ w'.cell? ⟨b, off + 3, none⟩ = some (.slice y3 y4 y5) ∧ w'.cell? ⟨b, off + 4, none⟩ = some (.slice y6 y7 y8) ∧ w'.cell? ⟨b, off + 5, none⟩ = some (.slice y9 yA yB) ∧ w'.cell? ⟨b, off + 6, none⟩ = some (.int .i64 z0) ∧ w'.cell? ⟨b, off + 6 + 1, none⟩ = some (.int .i64 z1) ∧ w'.cell? ⟨b, off + 6 + 2, none⟩ = some (.int .i64 z2) ∧ w'.cell? ⟨b, off + 6 + 3, none⟩ = some (.slice z3 z4 z5) ∧ w'.cell? ⟨b, off + 6 + 4, none⟩ = some (.slice z6 z7 z8) ∧ w'.cell? ⟨b, off + 6 + 5, none⟩ = some (.slice z9 zA zB)) (first | (with_reducible exact HKC.out _ HBf.out) | (with_reducible exact HKC.out _ HB0.out) | (with_reducible exact HKC.out _ HB0d.out) | go_keep)
        ((go_at_call 41; refine (HTO.out _ _ _ (by first | exact B1.out | exact B2.out) (by first | (with_reducible exact HBf.out) | (with_reducible exact HB0.out) | (with_reducible exact HB0d.out) | (with_reducible exact HBf.out.drew))).mono ?_; rintro e w4 ⟨rfl, hb4⟩; have HBf : Hid (Below wa.heap.size wa w4) := Lib.hid (by first | (with_reducible exact HBf.out.trans (hb4.mono HBf.out.size)) | (with_reducible exact HBf.out.drew.trans (hb4.mono HBf.out.drew.size)) | (with_reducible exact HB0.out.trans hb4) | (with_reducible exact HB0d.out.trans (hb4.mono HB0d.out.size))); obtain ⟨f5, f0, fw, m0, m1, m2, m3, m4, m5, n0, n1, n2, n3, n4, n5⟩ := HKC.out _ HBf.out; clear hb4))
      all_goals
        go_wp2_with fail
        go_ret
        exact ⟨by rw [HRR.out]; rfl, HBA.out.trans (HBf.out.mono HBA.out.size)⟩
end Go.Proofs.YtjmplhkdohlbcaaGreatDoor.Exp
/-
  The walk of Decimal: the digits of a number.
-/
namespace Go.Proofs.YtjmplhkdohlbcaaGreatDoor.Exp
open Go.RowKit Go.Gh Go.Proofs.YtjmplhkdohlbcaaGreatDoor.Lab
set_option linter.unusedVariables false
set_option linter.unusedSimpArgs false
theorem digits_piece (r : Nat) (h : r < 10) : (⟨#[48, 49, 50, 51, 52, 53, 54, 55, 56, 57]⟩ : ByteArray).extract r (r + 1) = mkS (Lib.decDigits r) := by
  rw [Lib.decDigits_one h]
  show (mkS [48, 49, 50, 51, 52, 53, 54, 55, 56, 57]).extract r (r + 1) = _
  rw [mkS_ext]
  have : r = 0 ∨ r = 1 ∨ r = 2 ∨ r = 3 ∨ r = 4 ∨ r = 5 ∨ r = 6 ∨ r = 7 ∨ r = 8 ∨ r = 9 := by omega
  rcases this with rfl | rfl | rfl | rfl | rfl | rfl | rfl | rfl | rfl | rfl <;> rfl
theorem dec_split {m : Nat} (h : ¬ m < 10) : Lib.decDigits m = Lib.decDigits (m / 10) ++ Lib.decDigits (m % 10) := by
  rw [Lib.decDigits, dif_neg h, Lib.decDigits_one (Nat.mod_lt _ (by decide))]
theorem dec_small (k m : Nat) (h : m < 10 ^ (k + 1)) : (mkS (Lib.decDigits m)).size ≤ k + 1 := by rw [mkS_size]; exact dec_len k m h
set_option maxHeartbeats 4000000 in
set_option maxRecDepth 100000 in
theorem dec_nat (m : Nat) : m < 9223372036854775808 → ∀ w, Calls Tryz.prog 46 #[.int .i64 (m : Int)] w fun e w' => e = .returned (.string (mkS (Lib.decDigits m))) ∧ w = w' := by
  induction m using Nat.strongRecOn with
  | _ m ih =>
    intro hm w
    obtain ⟨r, hr⟩ : ∃ r, m % 10 = r := ⟨_, rfl⟩
    obtain ⟨q, hq⟩ : ∃ q, m / 10 = q := ⟨_, rfl⟩
    have hr9 : r < 10 := by omega
    have er : (m : Int) % 10 = (r : Int) := by omega
    have eq : (m : Int) / 10 = (q : Int) := by omega
    have hdig := digits_piece r hr9
    have hs1 : (mkS (Lib.decDigits r)).size = 1 := by rw [mkS_size, Lib.decDigits_one hr9]; rfl
    by_cases h10 : m < 10
    · obtain rfl : m = r := by omega
      have HD := Lib.hid hdig
      clear hdig hr hq ih eq er hs1
      go_enter Tryz.func46, Tryz.ntmps46
      go_wp2_with fail
      go_ret
      exact ⟨by rw [Nat.mod_eq_of_lt hr9, HD.out]; rfl, rfl⟩
    · have HQ := Lib.hid (ih q (by omega) (by omega))
      have hs2 := dec_small 18 q (by omega)
      have HSP : Hid (mkS (Lib.decDigits q) ++ mkS (Lib.decDigits r) = mkS (Lib.decDigits m)) := Lib.hid (by rw [mkS_app, dec_split h10, hr, hq])
      have HD := Lib.hid hdig
      generalize mkS (Lib.decDigits q) = Q at *
      clear hdig hr hq ih hs1
      go_enter Tryz.func46, Tryz.ntmps46
      go_wp2_with (refine (HQ.out _).mono ?_; rintro e w2 ⟨rfl, rfl⟩)
      go_ret
      exact ⟨by rw [HD.out, HSP.out]; rfl, rfl⟩
set_option maxHeartbeats 4000000 in
set_option maxRecDepth 100000 in
theorem decimal_any (n : Int) (h1 : -9223372036854775808 ≤ n) (h2 : n < 9223372036854775808) (w : World) : Calls Tryz.prog 46 #[.int .i64 n] w fun e w' => e = .returned (.string (mkS (Lib.itoa n))) ∧ w = w' := by
  by_cases hn : n < 0
  case neg =>
    obtain ⟨m, rfl⟩ : ∃ m : Nat, n = (m : Int) := ⟨n.toNat, by omega⟩
    have e : Lib.itoa (m : Int) = Lib.decDigits m := by unfold Lib.itoa; rw [if_neg hn]; rfl
    rw [e]
    exact dec_nat m (by omega) w
  obtain ⟨m, rfl⟩ : ∃ m : Nat, n = -(m : Int) := ⟨n.natAbs, by omega⟩
  have e : Lib.itoa (-(m : Int)) = 45 :: Lib.decDigits m := by unfold Lib.itoa; rw [if_pos hn, Int.natAbs_neg, Int.natAbs_natCast]
  rw [e]
  obtain ⟨r, hr⟩ : ∃ r, m % 10 = r := ⟨_, rfl⟩
  obtain ⟨q, hq⟩ : ∃ q, m / 10 = q := ⟨_, rfl⟩
  have hr9 : r < 10 := by omega
  have er : (-(m : Int)).tmod 10 = -(r : Int) := by rw [Int.neg_tmod, Int.tmod_eq_emod_of_nonneg (by omega)]; omega
  have eq : (-(m : Int)).tdiv 10 = -(q : Int) := by rw [Int.neg_tdiv, Int.tdiv_eq_ediv_of_nonneg (by omega)]; omega
  have HR := Lib.hid (dec_nat r (by omega))
  have HQ := Lib.hid (dec_nat q (by omega))
  have hs1 : (mkS (Lib.decDigits r)).size = 1 := by rw [mkS_size, Lib.decDigits_one hr9]; rfl
  have hs2 := dec_small 18 q (by omega)
  have HSP : Hid (m < 10 ∧ m = r ∧ q = 0 ∨ ¬ m < 10 ∧ ¬ q = 0 ∧ Lib.decDigits m = Lib.decDigits q ++ Lib.decDigits r) := Lib.hid (by
    by_cases h10 : m < 10
    · exact Or.inl ⟨h10, by omega, by omega⟩
    · exact Or.inr ⟨h10, by omega, by rw [dec_split h10, hr, hq]⟩)
  have hm0 : 0 < m := by omega
  have hq9 : q ≤ 922337203685477580 := by omega
  clear hn h2 hr hq e
  rcases HSP.out with ⟨-, rfl, rfl⟩ | ⟨-, hq0, hd⟩
  · generalize hRs : mkS (Lib.decDigits m) = R at *
    have HRs := Lib.hid hRs
    clear hRs HQ hs2
    go_enter Tryz.func46, Tryz.ntmps46
    go_wp2_with (refine (HR.out _).mono ?_; rintro e w2 ⟨rfl, rfl⟩)
    go_ret
    exact ⟨by rw [← HRs.out]; rfl, rfl⟩
  · have HD := Lib.hid hd
    obtain ⟨R, hRs⟩ : ∃ R, mkS (Lib.decDigits r) = R := ⟨_, rfl⟩
    obtain ⟨Q, hQs⟩ : ∃ R, mkS (Lib.decDigits q) = R := ⟨_, rfl⟩
    rw [hRs] at HR hs1
    rw [hQs] at HQ hs2
    have HRs := Lib.hid hRs
    have HQs := Lib.hid hQs
    clear hd hRs hQs
    have hq1 : 0 < q := by omega
    have hqq : ((q : Int) == 0) = false := by simp; omega
    go_enter Tryz.func46, Tryz.ntmps46
    go_wp2_with fail
    refine (HQ.out _).mono ?_
    rintro e w2 ⟨rfl, rfl⟩
    go_wp2_with fail
    refine (HR.out _).mono ?_
    rintro e w2 ⟨rfl, rfl⟩
    go_wp2_with fail
    go_ret
    exact ⟨by rw [HD.out, ← HRs.out, ← HQs.out]; rfl, rfl⟩
end Go.Proofs.YtjmplhkdohlbcaaGreatDoor.Exp
