/-
  Sets of numbers: the walk of index.And.
-/
import Derived.Test.YtcljeedmiobepaaIx2
import Derived.Test.YtcljeedmiobepaaLib4
import Derived.Deep.RegionLaw
namespace Go.Proofs.Ytcljeedmiobepaa.Ix
open Go.RowKit Go.Gh Go.Proofs.Ytcljeedmiobepaa.Rk
set_option linter.unusedVariables false
/-- What is left of each, and what has been put out. -/
def AndRel (w2 : World) (T : List Int) (x y u : Value) (wr : World) : Prop := ∃ (ra rb acc : List Int), Ns w2 x ra ∧ Ns w2 y rb ∧ wr.ownsRow w2.heap.size 3 1 u acc.length (acc.map (Value.int .i64)) ∧ T = acc ++ andL ra rb ∧ acc.length + ra.length ≤ 1000000000 ∧ Below w2.heap.size w2 wr
def lenOf : Value → Nat
  | .slice _ n _ => n
  | _ => 0
theorem Ns.tail {w : World} {b off q c : Nat} {x : Int} {r : List Int} (h : Ns w (.slice (some ⟨b, off, none⟩) (q + 1) c) (x :: r)) :
    r.length = q ∧ (c = 1 → Ns w (.slice (some ⟨b, off, none⟩) q 0) r) ∧ (¬ c = 1 → Ns w (.slice (some ⟨b, off + 1, none⟩) q (c - 1)) r) := by
  unfold Ns at h ⊢
  have hq : r.length = q := by
    obtain ⟨_, _, e, -⟩ := h.shape
    simp at e
    exact e.2.1.symm
  subst hq
  have := sl_sliced h (show 1 ≤ r.length + 1 by omega) (Nat.le_refl _)
  rw [Nat.add_sub_cancel, Nat.mul_one, Nat.mul_one, List.map_cons, List.drop_succ_cons, List.drop_zero, List.take_of_length_le (by rw [List.length_map]; exact Nat.le_refl _)] at this
  unfold sliced at this
  refine ⟨rfl, fun hc => ?_, fun hc => ?_⟩
  · subst hc
    simpa using this
  · rw [if_neg hc] at this
    simpa [addr_add] using this
theorem lsome {w : World} {v : Value} {x : Int} {r : List Int} (h : Ns w v (x :: r)) : ∃ b off c, v = .slice (some ⟨b, off, none⟩) (r.length + 1) c ∧ w.cell? ⟨b, off, none⟩ = some (.int .i64 x) ∧ r.length + 1 ≤ c ∧ c ≤ 9223372036854775807 := by
  obtain ⟨ao, c, rfl, h1, h2, -⟩ := Sl.shape h
  obtain ⟨b, off, rfl, hc⟩ := Ns.at h (i := 0) rfl
  exact ⟨b, off, c, rfl, hc, h1, h2⟩
set_option maxHeartbeats 8000000 in
set_option maxRecDepth 100000 in
theorem And_any (va vb : Value) (a b : List Int) (w : World) (ha : Ns w va a) (hb : Ns w vb b) (hla : a.length ≤ 1000000000) (hlb : b.length ≤ 1000000000) :
    Calls Try.prog 87 #[va, vb] w fun e w' => ∃ v', e = .returned v' ∧ Ns w' v' (andL (setL a) (setL b)) ∧ Below w.heap.size w w' := by
  obtain ⟨ao, c, rfl, -, -, _⟩ := ha.shape
  obtain ⟨bo, d, rfl, -, -, _⟩ := hb.shape
  obtain ⟨n, hm⟩ : ∃ n, a.length = n := ⟨_, rfl⟩
  obtain ⟨m, hm2⟩ : ∃ n, b.length = n := ⟨_, rfl⟩
  rw [hm] at ha ⊢
  rw [hm2] at hb ⊢
  have HA := Lib.hid ha
  have HB := Lib.hid hb
  have HLA := Lib.hid hla
  have HLB := Lib.hid hlb
  clear ha hb hla hlb hm hm2
  go_enter Try.func87, Try.ntmps87
  go_wp2_with fail
  refine (setI_any _ a _ HA.out HLA.out).mono ?_
  rintro e w1 ⟨v1, rfl, hown1, hb1⟩
  have HN1 : Hid (Ns w1 v1 (setL a)) := Lib.hid (own_sl hown1)
  obtain ⟨s1, hs1⟩ : ∃ s, (setL a).length = s := ⟨_, rfl⟩
  rw [hs1] at hown1
  obtain ⟨a1, c1, rfl, -, -, -⟩ := own_shape hown1
  have HB1 := Lib.hid hb1
  clear hown1 hb1 hs1
  go_wp2_with fail
  refine (setI_any _ b _ (HB.out.below HB1.out) HLB.out).mono ?_
  rintro e w2 ⟨v2, rfl, hown2, hb2⟩
  have HN2 : Hid (Ns w2 v2 (setL b)) := Lib.hid (own_sl hown2)
  obtain ⟨s2, hs2⟩ : ∃ s, (setL b).length = s := ⟨_, rfl⟩
  rw [hs2] at hown2
  obtain ⟨a2, c2, rfl, -, -, -⟩ := own_shape hown2
  have HN3 := Lib.hid (HN1.out.below hb2)
  have HB2 := Lib.hid (HB1.out.trans (hb2.mono HB1.out.size))
  have HLS : Hid ((setL a).length ≤ 1000000000) := Lib.hid (Nat.le_trans (setL_len a) HLA.out)
  obtain ⟨T, hT⟩ : ∃ T, andL (setL a) (setL b) = T := ⟨_, rfl⟩
  have HT := Lib.hid hT
  clear hown2 hb2 hs2 HN1 hT
  go_wp2_with fail
  go_loopw [0, 1, 5, 28, 38] (fun x y u _ _ wr => AndRel w2 T x y u wr) (fun x y _ _ _ _ => lenOf x + lenOf y)
  case atStart => exact ⟨setL a, setL b, [], HN3.out, HN2.out, World.ownsRow_nil _ _ _ _, by rw [← HT.out]; rfl, by simpa using HLS.out, Below.refl _ _⟩
  case round =>
    obtain ⟨ra, rb, acc, hX, hY, hO, hE, hL, hbr⟩ := hrel
    have HX := Lib.hid hX
    have HY := Lib.hid hY
    have HO := Lib.hid hO
    have HE := Lib.hid hE
    have HL := Lib.hid hL
    clear hX hY hO hE hL
    have hown := HO.out
    have hlen := HL.out
    obtain ⟨r, hr⟩ : ∃ r, acc.length = r := ⟨_, rfl⟩
    rw [hr] at hown hlen
    have HR := Lib.hid hr
    obtain ⟨uo, uc, rfl, huc, -, -⟩ := own_shape hown
    have hfin : andL ra rb = [] → Hid (Ns wr (.slice uo r uc) (andL (setL a) (setL b)) ∧ Below w.heap.size w wr) := fun h => Lib.hid ⟨by
      have e := HE.out
      rw [h, List.append_nil] at e
      rw [HT.out, e]
      unfold Ns
      rw [HR.out]
      exact own_sl hown, HB2.out.trans (hbr.mono HB2.out.size)⟩
    clear hr
    cases ra with
    | nil =>
      have HF := hfin (by rw [andL])
      obtain ⟨xo, xc, rfl, -, -, -⟩ := Sl.shape HX.out
      obtain ⟨yo, yc, rfl, -, -, -⟩ := Sl.shape HY.out
      obtain ⟨q, hq⟩ : ∃ q, rb.length = q := ⟨_, rfl⟩
      rw [hq, List.length_nil]
      clear hfin hown HO hlen HL hq
      go_wp2_with fail
      go_ret
      exact ⟨_, rfl, HF.out.1, HF.out.2⟩
    | cons x ra =>
      cases rb with
      | nil =>
        have HF := hfin (by rw [andL])
        obtain ⟨b1, off1, lc, rfl, c0, hk1, hk2⟩ := lsome HX.out
        obtain ⟨yo, yc, rfl, -, -, -⟩ := Sl.shape HY.out
        obtain ⟨q, hq⟩ : ∃ q, ra.length = q := ⟨_, rfl⟩
        rw [hq, List.length_nil]
        have i1 : (0 : Int) < ((q + 1 : Nat) : Int) := by omega
        have i2 : decide ((0 : Int) < (q : Int) + 1) = true := decide_eq_true (by omega)
        clear hfin hown HO hlen HL hq c0 hk1 hk2
        go_wp2_with fail
        go_ret
        exact ⟨_, rfl, HF.out.1, HF.out.2⟩
      | cons y rb =>
        obtain ⟨b1, off1, lc, rfl, -, hk1, hk2⟩ := lsome HX.out
        obtain ⟨b2, off2, ld, rfl, -, hk3, hk4⟩ := lsome HY.out
        obtain ⟨hp, ta1, ta2⟩ := Ns.tail HX.out
        obtain ⟨hq, tb1, tb2⟩ := Ns.tail HY.out
        obtain ⟨p, hp2⟩ : ∃ p, ra.length = p := ⟨_, rfl⟩
        obtain ⟨q, hq2⟩ : ∃ p, rb.length = p := ⟨_, rfl⟩
        have cc := HX.out.below hbr
        obtain ⟨_, _, e1, c0⟩ := Ns.at cc (i := 0) rfl
        have dd := HY.out.below hbr
        obtain ⟨_, _, e2, d0⟩ := Ns.at dd (i := 0) rfl
        simp only [Option.some.injEq, Addr.mk.injEq, and_true] at e1 e2
        obtain ⟨rfl, rfl⟩ := e1
        obtain ⟨rfl, rfl⟩ := e2
        rw [Nat.add_zero] at c0 d0
        rw [List.length_cons, hp2] at hlen
        rw [hp2] at hk1 ta1 ta2 ⊢
        rw [hq2] at hk3 tb1 tb2 ⊢
        have i1 : (0 : Int) < ((p + 1 : Nat) : Int) := by omega
        have i2 : decide ((0 : Int) < (p : Int) + 1) = true := decide_eq_true (by omega)
        have i3 : (1 : Int) ≤ (p : Int) + 1 := by omega
        have i4 : (0 : Int) < ((q + 1 : Nat) : Int) := by omega
        have i5 : decide ((0 : Int) < (q : Int) + 1) = true := decide_eq_true (by omega)
        have i6 : (1 : Int) ≤ (q : Int) + 1 := by omega
        rw [hp2] at HX
        rw [hq2] at HY
        have HP := Lib.hid hp2
        have HQ := Lib.hid hq2
        clear hp hq hp2 hq2 cc dd hfin
        rcases Int.lt_trichotomy x y with hlt | heq | hgt
        · have HE2 : Hid (T = acc ++ andL ra (y :: rb)) := Lib.hid (by rw [HE.out, andL, if_pos hlt])
          have t1 : decide (x < y) = true := decide_eq_true hlt
          have HOW := Lib.hid hown
          clear hlt hown HO tb1 tb2
          go_wp2_with fail
          go_quiet (fail)
          go_wp2_with fail
          by_cases hcap : lc = 1
          · have HTA := Lib.hid (ta1 hcap)
            subst hcap
            obtain rfl : p = 0 := by omega
            clear ta1 ta2
            go_wp2_with fail
            go_roundw
            case rel => exact ⟨ra, y :: rb, acc, HTA.out, HY.out, by rw [HR.out]; exact own_below HOW.out (below_drewN (Below.refl _ _) _), HE2.out, by rw [HR.out, HP.out]; omega, below_drewN hbr _⟩
            case measure => first | (simp [lenOf]; done) | (simp [lenOf]; omega)
          · have HTA := Lib.hid (ta2 hcap)
            clear ta1 ta2
            go_wp2_with fail
            go_roundw
            case rel => exact ⟨ra, y :: rb, acc, HTA.out, HY.out, by rw [HR.out]; exact own_below HOW.out (below_drewN (Below.refl _ _) _), HE2.out, by rw [HR.out, HP.out]; omega, below_drewN hbr _⟩
            case measure => first | (simp [lenOf]; done) | (simp [lenOf]; omega)
        · have HE2 : Hid (T = (acc ++ [x]) ++ andL ra rb) := Lib.hid (by rw [HE.out, andL, if_neg (by omega), if_neg (by omega), List.append_assoc]; rfl)
          have t1 : decide (x < y) = false := decide_eq_false (by omega)
          have t2 : decide (y < x) = false := decide_eq_false (by omega)
          have t3 : ¬ x < y := by omega
          have t4 : ¬ y < x := by omega
          have HOW := Lib.hid hown
          clear hown HO heq
          go_wp2_with fail
          go_quiet (fail)
          go_wp2_with fail
          go_quiet (fail)
          have hbq := fun z => below_drewN hbr z
          have hownq := fun z => own_below HOW.out (below_drewN (Below.refl wr.heap.size wr) z)
          go_wp2_with (at_builtin; refine append1 [.int .i64 x] SortI.elInt rfl _ _ rfl (hownq _) (hbq _) (hbq _).size rfl rfl rfl (one_all _ rfl) ?c4 ?c5 ?_)
          case c4 => omega
          case c5 => omega
          intro v7 w7 hown7 hbel7 _
          have HO7 : Hid (w7.ownsRow w2.heap.size 3 1 v7 (acc ++ [x]).length ((acc ++ [x]).map (Value.int .i64))) := Lib.hid (by
            rw [List.length_append, List.length_singleton, HR.out, List.map_append]
            exact hown7)
          clear hown7 hownq
          by_cases hcap : lc = 1
          · have HTA := Lib.hid (ta1 hcap)
            subst hcap
            obtain rfl : p = 0 := by omega
            clear ta1 ta2
            by_cases hcap2 : ld = 1
            · have HTB := Lib.hid (tb1 hcap2)
              subst hcap2
              obtain rfl : q = 0 := by omega
              clear tb1 tb2
              go_wp2_with fail
              go_quiet (fail)
              go_wp2_with fail
              go_roundw
              case rel => exact ⟨ra, rb, acc ++ [x], HTA.out, HTB.out, own_below HO7.out (below_drewN (Below.refl _ _) _), HE2.out, by rw [List.length_append, List.length_singleton, HR.out, HP.out]; omega, below_drewN hbel7 _⟩
              case measure => first | (simp [lenOf]; done) | (simp [lenOf]; omega)
            · have HTB := Lib.hid (tb2 hcap2)
              clear tb1 tb2
              go_wp2_with fail
              go_quiet (fail)
              go_wp2_with fail
              go_roundw
              case rel => exact ⟨ra, rb, acc ++ [x], HTA.out, HTB.out, own_below HO7.out (below_drewN (Below.refl _ _) _), HE2.out, by rw [List.length_append, List.length_singleton, HR.out, HP.out]; omega, below_drewN hbel7 _⟩
              case measure => first | (simp [lenOf]; done) | (simp [lenOf]; omega)
          · have HTA := Lib.hid (ta2 hcap)
            clear ta1 ta2
            by_cases hcap2 : ld = 1
            · have HTB := Lib.hid (tb1 hcap2)
              subst hcap2
              obtain rfl : q = 0 := by omega
              clear tb1 tb2
              go_wp2_with fail
              go_quiet (fail)
              go_wp2_with fail
              go_roundw
              case rel => exact ⟨ra, rb, acc ++ [x], HTA.out, HTB.out, own_below HO7.out (below_drewN (Below.refl _ _) _), HE2.out, by rw [List.length_append, List.length_singleton, HR.out, HP.out]; omega, below_drewN hbel7 _⟩
              case measure => first | (simp [lenOf]; done) | (simp [lenOf]; omega)
            · have HTB := Lib.hid (tb2 hcap2)
              clear tb1 tb2
              go_wp2_with fail
              go_quiet (fail)
              go_wp2_with fail
              go_roundw
              case rel => exact ⟨ra, rb, acc ++ [x], HTA.out, HTB.out, own_below HO7.out (below_drewN (Below.refl _ _) _), HE2.out, by rw [List.length_append, List.length_singleton, HR.out, HP.out]; omega, below_drewN hbel7 _⟩
              case measure => first | (simp [lenOf]; done) | (simp [lenOf]; omega)
        · have HE2 : Hid (T = acc ++ andL (x :: ra) rb) := Lib.hid (by rw [HE.out, andL, if_neg (by omega), if_pos hgt])
          have t1 : decide (x < y) = false := decide_eq_false (by omega)
          have t2 : decide (y < x) = true := decide_eq_true hgt
          have t3 : ¬ x < y := by omega
          have HOW := Lib.hid hown
          clear hown HO ta1 ta2
          go_wp2_with fail
          go_quiet (fail)
          go_wp2_with fail
          go_quiet (fail)
          go_wp2_with fail
          by_cases hcap : ld = 1
          · have HTA := Lib.hid (tb1 hcap)
            subst hcap
            obtain rfl : q = 0 := by omega
            clear tb1 tb2
            go_wp2_with fail
            go_roundw
            case rel => exact ⟨x :: ra, rb, acc, HX.out, HTA.out, by rw [HR.out]; first | exact own_below HOW.out (below_drewN (Below.refl _ _) _) | exact own_below HOW.out (below_drewN (below_drewN (Below.refl _ _) _) _), HE2.out, by rw [HR.out, List.length_cons, HP.out]; omega, by first | exact below_drewN hbr _ | exact below_drewN (below_drewN hbr _) _⟩
            case measure => first | (simp [lenOf]; done) | (simp [lenOf]; omega)
          · have HTA := Lib.hid (tb2 hcap)
            clear tb1 tb2
            go_wp2_with fail
            go_roundw
            case rel => exact ⟨x :: ra, rb, acc, HX.out, HTA.out, by rw [HR.out]; first | exact own_below HOW.out (below_drewN (Below.refl _ _) _) | exact own_below HOW.out (below_drewN (below_drewN (Below.refl _ _) _) _), HE2.out, by rw [HR.out, List.length_cons, HP.out]; omega, by first | exact below_drewN hbr _ | exact below_drewN (below_drewN hbr _) _⟩
            case measure => first | (simp [lenOf]; done) | (simp [lenOf]; omega)
end Go.Proofs.Ytcljeedmiobepaa.Ix
