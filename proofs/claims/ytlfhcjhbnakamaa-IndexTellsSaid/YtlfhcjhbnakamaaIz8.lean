/-
  Sets of numbers: the walk of index.And.
-/
import Derived.Test.YtlfhcjhbnakamaaIz2
import Derived.Test.YtlfhcjhbnakamaaIz3
import Derived.Test.YtlfhcjhbnakamaaIz4
import Derived.Test.YtlfhcjhbnakamaaIz5
import Derived.Test.YtlfhcjhbnakamaaIz6
import Derived.Test.YtlfhcjhbnakamaaIz7
import Derived.Deep.RegionLaw
import Derived.Maps.GroupsBeside
import Derived.Shelf.Lay
import Derived.Shelf.LaySoft
import Derived.Ground.SlgmProg
import Derived.Shelf.SortM.Plain
import Derived.Shelf.SortM.SortNone
import Derived.Shelf.Small.Bits
import Derived.Test.YtlfhcjhbnakamaaProg
import Derived.Sort.OwnSorted
import Derived.Maps.AppendAt
namespace Go.Proofs.Ytlfhcjhbnakamaa.Ix
open Go.RowKit Go.Gh Go.Proofs.Ytlfhcjhbnakamaa.Rk
set_option linter.unusedVariables false
/-- What is left of each, and what has been put out. -/
def AndRel (w2 : World) (T : List Int) (x y u : Value) (wr : World) : Prop := ∃ (ra rb acc : List Int), Ns w2 x ra ∧ Ns w2 y rb ∧ wr.ownsRow w2.heap.size 3 1 u acc.length (acc.map (Value.int .i64)) ∧ T = acc ++ andL ra rb ∧ acc.length + ra.length ≤ 1000000000 ∧ Below w2.heap.size w2 wr
def lenOf : Value → Nat
  | .slice _ n _ => n
  | _ => 0
theorem Ns.tail {w : World} {b off q c : Nat} {x : Int} {r : List Int} (h : Ns w (.slice (some ⟨b, off, none⟩) (q + 1) c) (x :: r)) :
    r.length = q ∧ (c = 1 → Ns w (.slice (some ⟨b, off, none⟩) q 0) r) ∧ (¬ c = 1 → Ns w (.slice (some ⟨b, off + 1, none⟩) q (c - 1)) r) := by
  unfold Ns at h ⊢
  have hq : r.length = q := by
    obtain ⟨_, _, e, -⟩ := h.shape
    simp at e
    exact e.2.1.symm
  subst hq
  have := sl_sliced h (show 1 ≤ r.length + 1 by omega) (Nat.le_refl _)
  rw [Nat.add_sub_cancel, Nat.mul_one, Nat.mul_one, List.map_cons, List.drop_succ_cons, List.drop_zero, List.take_of_length_le (by rw [List.length_map]; exact Nat.le_refl _)] at this
  unfold sliced at this
  refine ⟨rfl, fun hc => ?_, fun hc => ?_⟩
  · subst hc
    simpa using this
  · rw [if_neg hc] at this
    simpa [addr_add] using this
theorem lsome {w : World} {v : Value} {x : Int} {r : List Int} (h : Ns w v (x :: r)) : ∃ b off c, v = .slice (some ⟨b, off, none⟩) (r.length + 1) c ∧ w.cell? ⟨b, off, none⟩ = some (.int .i64 x) ∧ r.length + 1 ≤ c ∧ c ≤ 9223372036854775807 := by
  obtain ⟨ao, c, rfl, h1, h2, -⟩ := Sl.shape h
  obtain ⟨b, off, rfl, hc⟩ := Ns.at h (i := 0) rfl
  exact ⟨b, off, c, rfl, hc, h1, h2⟩
set_option maxHeartbeats 8000000 in
set_option maxRecDepth 100000 in
theorem And_own (va vb : Value) (a b : List Int) (w : World) (ha : Ns w va a) (hb : Ns w vb b) (hla : a.length ≤ 1000000000) (hlb : b.length ≤ 1000000000) :
    Calls Try.prog 27 #[va, vb] w fun e w' => ∃ v', e = .returned v' ∧ OwI w.heap.size w' v' (andL (setL a) (setL b)) ∧ Below w.heap.size w w' := by
  obtain ⟨ao, c, rfl, -, -, _⟩ := ha.shape
  obtain ⟨bo, d, rfl, -, -, _⟩ := hb.shape
  obtain ⟨n, hm⟩ : ∃ n, a.length = n := ⟨_, rfl⟩
  obtain ⟨m, hm2⟩ : ∃ n, b.length = n := ⟨_, rfl⟩
  rw [hm] at ha ⊢
  rw [hm2] at hb ⊢
  have HA := Lib.hid ha
  have HB := Lib.hid hb
  have HLA := Lib.hid hla
  have HLB := Lib.hid hlb
  clear ha hb hla hlb hm hm2
  go_enter Try.func27, Try.ntmps27
  go_wp2_with fail
  refine (setI_any _ a _ HA.out HLA.out).mono ?_
  rintro e w1 ⟨v1, rfl, hown1, hb1⟩
  have HN1 : Hid (Ns w1 v1 (setL a)) := Lib.hid (own_sl hown1)
  obtain ⟨s1, hs1⟩ : ∃ s, (setL a).length = s := ⟨_, rfl⟩
  rw [hs1] at hown1
  obtain ⟨a1, c1, rfl, -, -, -⟩ := own_shape hown1
  have HB1 := Lib.hid hb1
  clear hown1 hb1 hs1
  go_wp2_with fail
  refine (setI_any _ b _ (HB.out.below HB1.out) HLB.out).mono ?_
  rintro e w2 ⟨v2, rfl, hown2, hb2⟩
  have HN2 : Hid (Ns w2 v2 (setL b)) := Lib.hid (own_sl hown2)
  obtain ⟨s2, hs2⟩ : ∃ s, (setL b).length = s := ⟨_, rfl⟩
  rw [hs2] at hown2
  obtain ⟨a2, c2, rfl, -, -, -⟩ := own_shape hown2
  have HN3 := Lib.hid (HN1.out.below hb2)
  have HB2 := Lib.hid (HB1.out.trans (hb2.mono HB1.out.size))
  have HLS : Hid ((setL a).length ≤ 1000000000) := Lib.hid (Nat.le_trans (setL_len a) HLA.out)
  obtain ⟨T, hT⟩ : ∃ T, andL (setL a) (setL b) = T := ⟨_, rfl⟩
  have HT := Lib.hid hT
  clear hown2 hb2 hs2 HN1 hT
  go_wp2_with fail
  go_loopw [0, 1, 5, 28, 38] (fun x y u _ _ wr => AndRel w2 T x y u wr) (fun x y _ _ _ _ => lenOf x + lenOf y)
  case atStart => exact ⟨setL a, setL b, [], HN3.out, HN2.out, World.ownsRow_nil _ _ _ _, by rw [← HT.out]; rfl, by simpa using HLS.out, Below.refl _ _⟩
  case round =>
    obtain ⟨ra, rb, acc, hX, hY, hO, hE, hL, hbr⟩ := hrel
    have HX := Lib.hid hX
    have HY := Lib.hid hY
    have HO := Lib.hid hO
    have HE := Lib.hid hE
    have HL := Lib.hid hL
    clear hX hY hO hE hL
    have hown := HO.out
    have hlen := HL.out
    obtain ⟨r, hr⟩ : ∃ r, acc.length = r := ⟨_, rfl⟩
    rw [hr] at hown hlen
    have HR := Lib.hid hr
    obtain ⟨uo, uc, rfl, huc, -, -⟩ := own_shape hown
    have hfin : andL ra rb = [] → Hid (OwI w.heap.size wr (.slice uo r uc) (andL (setL a) (setL b)) ∧ Below w.heap.size w wr) := fun h => Lib.hid ⟨by
      have e := HE.out
      rw [h, List.append_nil] at e
      rw [HT.out, e]
      unfold OwI
      rw [HR.out]
      exact own_mono hown HB2.out.size, HB2.out.trans (hbr.mono HB2.out.size)⟩
    clear hr
    cases ra with
    | nil =>
      have HF := hfin (by rw [andL])
      obtain ⟨xo, xc, rfl, -, -, -⟩ := Sl.shape HX.out
      obtain ⟨yo, yc, rfl, -, -, -⟩ := Sl.shape HY.out
      obtain ⟨q, hq⟩ : ∃ q, rb.length = q := ⟨_, rfl⟩
      rw [hq, List.length_nil]
      clear hfin hown HO hlen HL hq
      go_wp2_with fail
      go_ret
      exact ⟨_, rfl, HF.out.1, HF.out.2⟩
    | cons x ra =>
      cases rb with
      | nil =>
        have HF := hfin (by rw [andL])
        obtain ⟨b1, off1, lc, rfl, c0, hk1, hk2⟩ := lsome HX.out
        obtain ⟨yo, yc, rfl, -, -, -⟩ := Sl.shape HY.out
        obtain ⟨q, hq⟩ : ∃ q, ra.length = q := ⟨_, rfl⟩
        rw [hq, List.length_nil]
        have i1 : (0 : Int) < ((q + 1 : Nat) : Int) := by omega
        have i2 : decide ((0 : Int) < (q : Int) + 1) = true := decide_eq_true (by omega)
        clear hfin hown HO hlen HL hq c0 hk1 hk2
        go_wp2_with fail
        go_ret
        exact ⟨_, rfl, HF.out.1, HF.out.2⟩
      | cons y rb =>
        obtain ⟨b1, off1, lc, rfl, -, hk1, hk2⟩ := lsome HX.out
        obtain ⟨b2, off2, ld, rfl, -, hk3, hk4⟩ := lsome HY.out
        obtain ⟨hp, ta1, ta2⟩ := Ns.tail HX.out
        obtain ⟨hq, tb1, tb2⟩ := Ns.tail HY.out
        obtain ⟨p, hp2⟩ : ∃ p, ra.length = p := ⟨_, rfl⟩
        obtain ⟨q, hq2⟩ : ∃ p, rb.length = p := ⟨_, rfl⟩
        have cc := HX.out.below hbr
        obtain ⟨_, _, e1, c0⟩ := Ns.at cc (i := 0) rfl
        have dd := HY.out.below hbr
        obtain ⟨_, _, e2, d0⟩ := Ns.at dd (i := 0) rfl
        simp only [Option.some.injEq, Addr.mk.injEq, and_true] at e1 e2
        obtain ⟨rfl, rfl⟩ := e1
        obtain ⟨rfl, rfl⟩ := e2
        rw [Nat.add_zero] at c0 d0
        rw [List.length_cons, hp2] at hlen
        rw [hp2] at hk1 ta1 ta2 ⊢
        rw [hq2] at hk3 tb1 tb2 ⊢
        have i1 : (0 : Int) < ((p + 1 : Nat) : Int) := by omega
        have i2 : decide ((0 : Int) < (p : Int) + 1) = true := decide_eq_true (by omega)
        have i3 : (1 : Int) ≤ (p : Int) + 1 := by omega
        have i4 : (0 : Int) < ((q + 1 : Nat) : Int) := by omega
        have i5 : decide ((0 : Int) < (q : Int) + 1) = true := decide_eq_true (by omega)
        have i6 : (1 : Int) ≤ (q : Int) + 1 := by omega
        rw [hp2] at HX
        rw [hq2] at HY
        have HP := Lib.hid hp2
        have HQ := Lib.hid hq2
        clear hp hq hp2 hq2 cc dd hfin
        rcases Int.lt_trichotomy x y with hlt | heq | hgt
        · have HE2 : Hid (T = acc ++ andL ra (y :: rb)) := Lib.hid (by rw [HE.out, andL, if_pos hlt])
          have t1 : decide (x < y) = true := decide_eq_true hlt
          have HOW := Lib.hid hown
          clear hlt hown HO tb1 tb2
          go_wp2_with fail
          go_quiet (fail)
          go_wp2_with fail
          by_cases hcap : lc = 1
          · have HTA := Lib.hid (ta1 hcap)
            subst hcap
            obtain rfl : p = 0 := by omega
            clear ta1 ta2
            go_wp2_with fail
            go_roundw
            case rel => exact ⟨ra, y :: rb, acc, HTA.out, HY.out, by rw [HR.out]; exact own_below HOW.out (below_drewN (Below.refl _ _) _), HE2.out, by rw [HR.out, HP.out]; omega, below_drewN hbr _⟩
            case measure => first | (simp [lenOf]; done) | (simp [lenOf]; omega)
          · have HTA := Lib.hid (ta2 hcap)
            clear ta1 ta2
            go_wp2_with fail
            go_roundw
            case rel => exact ⟨ra, y :: rb, acc, HTA.out, HY.out, by rw [HR.out]; exact own_below HOW.out (below_drewN (Below.refl _ _) _), HE2.out, by rw [HR.out, HP.out]; omega, below_drewN hbr _⟩
            case measure => first | (simp [lenOf]; done) | (simp [lenOf]; omega)
        · have HE2 : Hid (T = (acc ++ [x]) ++ andL ra rb) := Lib.hid (by rw [HE.out, andL, if_neg (by omega), if_neg (by omega), List.append_assoc]; rfl)
          have t1 : decide (x < y) = false := decide_eq_false (by omega)
          have t2 : decide (y < x) = false := decide_eq_false (by omega)
          have t3 : ¬ x < y := by omega
          have t4 : ¬ y < x := by omega
          have HOW := Lib.hid hown
          clear hown HO heq
          go_wp2_with fail
          go_quiet (fail)
          go_wp2_with fail
          go_quiet (fail)
          have hbq := fun z => below_drewN hbr z
          have hownq := fun z => own_below HOW.out (below_drewN (Below.refl wr.heap.size wr) z)
          go_wp2_with (at_builtin; refine append1 [.int .i64 x] SortI.elInt rfl _ _ rfl (hownq _) (hbq _) (hbq _).size rfl rfl rfl (one_all _ rfl) ?c4 ?c5 ?_)
          case c4 => omega
          case c5 => omega
          intro v7 w7 hown7 hbel7 _
          have HO7 : Hid (w7.ownsRow w2.heap.size 3 1 v7 (acc ++ [x]).length ((acc ++ [x]).map (Value.int .i64))) := Lib.hid (by
            rw [List.length_append, List.length_singleton, HR.out, List.map_append]
            exact hown7)
          clear hown7 hownq
          by_cases hcap : lc = 1
          · have HTA := Lib.hid (ta1 hcap)
            subst hcap
            obtain rfl : p = 0 := by omega
            clear ta1 ta2
            by_cases hcap2 : ld = 1
            · have HTB := Lib.hid (tb1 hcap2)
              subst hcap2
              obtain rfl : q = 0 := by omega
              clear tb1 tb2
              go_wp2_with fail
              go_quiet (fail)
              go_wp2_with fail
              go_roundw
              case rel => exact ⟨ra, rb, acc ++ [x], HTA.out, HTB.out, own_below HO7.out (below_drewN (Below.refl _ _) _), HE2.out, by rw [List.length_append, List.length_singleton, HR.out, HP.out]; omega, below_drewN hbel7 _⟩
              case measure => first | (simp [lenOf]; done) | (simp [lenOf]; omega)
            · have HTB := Lib.hid (tb2 hcap2)
              clear tb1 tb2
              go_wp2_with fail
              go_quiet (fail)
              go_wp2_with fail
              go_roundw
              case rel => exact ⟨ra, rb, acc ++ [x], HTA.out, HTB.out, own_below HO7.out (below_drewN (Below.refl _ _) _), HE2.out, by rw [List.length_append, List.length_singleton, HR.out, HP.out]; omega, below_drewN hbel7 _⟩
              case measure => first | (simp [lenOf]; done) | (simp [lenOf]; omega)
          · have HTA := Lib.hid (ta2 hcap)
            clear ta1 ta2
            by_cases hcap2 : ld = 1
            · have HTB := Lib.hid (tb1 hcap2)
              subst hcap2
              obtain rfl : q = 0 := by omega
              clear tb1 tb2
              go_wp2_with fail
              go_quiet (fail)
              go_wp2_with fail
              go_roundw
              case rel => exact ⟨ra, rb, acc ++ [x], HTA.out, HTB.out, own_below HO7.out (below_drewN (Below.refl _ _) _), HE2.out, by rw [List.length_append, List.length_singleton, HR.out, HP.out]; omega, below_drewN hbel7 _⟩
              case measure => first | (simp [lenOf]; done) | (simp [lenOf]; omega)
            · have HTB := Lib.hid (tb2 hcap2)
              clear tb1 tb2
              go_wp2_with fail
              go_quiet (fail)
              go_wp2_with fail
              go_roundw
              case rel => exact ⟨ra, rb, acc ++ [x], HTA.out, HTB.out, own_below HO7.out (below_drewN (Below.refl _ _) _), HE2.out, by rw [List.length_append, List.length_singleton, HR.out, HP.out]; omega, below_drewN hbel7 _⟩
              case measure => first | (simp [lenOf]; done) | (simp [lenOf]; omega)
        · have HE2 : Hid (T = acc ++ andL (x :: ra) rb) := Lib.hid (by rw [HE.out, andL, if_neg (by omega), if_pos hgt])
          have t1 : decide (x < y) = false := decide_eq_false (by omega)
          have t2 : decide (y < x) = true := decide_eq_true hgt
          have t3 : ¬ x < y := by omega
          have HOW := Lib.hid hown
          clear hown HO ta1 ta2
          go_wp2_with fail
          go_quiet (fail)
          go_wp2_with fail
          go_quiet (fail)
          go_wp2_with fail
          by_cases hcap : ld = 1
          · have HTA := Lib.hid (tb1 hcap)
            subst hcap
            obtain rfl : q = 0 := by omega
            clear tb1 tb2
            go_wp2_with fail
            go_roundw
            case rel => exact ⟨x :: ra, rb, acc, HX.out, HTA.out, by rw [HR.out]; first | exact own_below HOW.out (below_drewN (Below.refl _ _) _) | exact own_below HOW.out (below_drewN (below_drewN (Below.refl _ _) _) _), HE2.out, by rw [HR.out, List.length_cons, HP.out]; omega, by first | exact below_drewN hbr _ | exact below_drewN (below_drewN hbr _) _⟩
            case measure => first | (simp [lenOf]; done) | (simp [lenOf]; omega)
          · have HTA := Lib.hid (tb2 hcap)
            clear tb1 tb2
            go_wp2_with fail
            go_roundw
            case rel => exact ⟨x :: ra, rb, acc, HX.out, HTA.out, by rw [HR.out]; first | exact own_below HOW.out (below_drewN (Below.refl _ _) _) | exact own_below HOW.out (below_drewN (below_drewN (Below.refl _ _) _) _), HE2.out, by rw [HR.out, List.length_cons, HP.out]; omega, by first | exact below_drewN hbr _ | exact below_drewN (below_drewN hbr _) _⟩
            case measure => first | (simp [lenOf]; done) | (simp [lenOf]; omega)
theorem And_any (va vb : Value) (a b : List Int) (w : World) (ha : Ns w va a) (hb : Ns w vb b) (hla : a.length ≤ 1000000000) (hlb : b.length ≤ 1000000000) :
    Calls Try.prog 27 #[va, vb] w fun e w' => ∃ v', e = .returned v' ∧ Ns w' v' (andL (setL a) (setL b)) ∧ Below w.heap.size w w' :=
  (And_own va vb a b w ha hb hla hlb).mono fun e w' ⟨v', h1, h2, h3⟩ => ⟨v', h1, own_sl h2, h3⟩
end Go.Proofs.Ytlfhcjhbnakamaa.Ix
/-
  What an index is in memory.
-/
namespace Go.Proofs.Ytlfhcjhbnakamaa.Iy
open Go.RowKit Go.Gh Go.Maps Go.WideShapes Go.Proofs.Ytlfhcjhbnakamaa.Rk
set_option linter.unusedVariables false
set_option linter.unusedSimpArgs false
/-- No block of that type is turned. -/
def Off (w : World) (row : Option Nat) (e : TypeId) : Prop := ∀ r, row = some r → ∀ cur fr, w.heap[r]? ≠ some (.cells cur e fr)
theorem off_none (w : World) (e : TypeId) : Off w none e := fun r h => by cases h
theorem own_off {w : World} {B size n : Nat} {e : TypeId} {v : Value} {xs : List Value} {row : Option Nat} (h : w.ownsRow B e size v n xs) (ho : Off w row e) : v.ownBlock = none ∨ v.ownBlock ≠ row := by
  rcases h.2 with ⟨rfl, _⟩ | ⟨g, cap, cur, rfl, _, hg, _⟩
  · exact Or.inl rfl
  · refine Or.inr (fun e1 => ?_)
    exact ho g (by rw [← e1]; rfl) cur (0, 0) hg
theorem off_row {w : World} {B size n : Nat} {e e' : TypeId} {v : Value} {xs : List Value} (h : w.ownsRow B e size v n xs) (hne : e ≠ e') : Off w v.ownBlock e' := by
  rcases h.2 with ⟨rfl, _⟩ | ⟨g, cap, cur, rfl, _, hg, _⟩
  · exact fun r h => by cases h
  · intro r hr cur' fr hr'
    obtain rfl : g = r := by simpa [Value.ownBlock] using hr
    rw [hg] at hr'
    simp at hr'
    exact hne hr'.2.1
theorem off_box {w : World} {b : Nat} {cs : Array Value} {T e' : TypeId} {fr : Nat × Nat} (h : w.heap[b]? = some (.cells cs T fr)) (hne : T ≠ e') : Off w (some b) e' := by
  intro r hr cur' fr' hr'
  obtain rfl : b = r := by simpa using hr
  rw [h] at hr'
  simp at hr'
  exact hne hr'.2.1
theorem off_map {w : World} {b : Nat} {es : Array MapEntry} {k : Nat} {e' : TypeId} (h : w.heap[b]? = some (.map es k)) : Off w (some b) e' := by
  intro r hr cur' fr' hr'
  obtain rfl : b = r := by simpa using hr
  rw [h] at hr'
  simp at hr'
theorem grown_of_below {w w' : World} (h : Below w.heap.size w w') : w.grownBy w' none := ⟨h.os, h.tape, h.output, h.size, fun k hk _ => h.block k hk⟩
theorem grown_set (w : World) (p : Addr) (u : Value) : w.grownBy (w.setCell p u) (some p.block) := ⟨rfl, rfl, rfl, by simp [World.setCell], fun k hk hne => Below.heap_setCell w p u k (fun e => hne (by rw [e]))⟩
/-- A list of labels in a row of one's own. -/
def LvO (B : Nat) (w : World) (l : List Lb) (c : List Value) : Prop := ∃ t, c = [t] ∧ Ow LbR 2 67 B w t l
theorem ow_turn {B : Nat} {w w' : World} {row : Option Nat} {t : Value} {l : List Lb} (h : Ow LbR 2 67 B w t l) (hg : w.grownBy w' row) (ho : Off w row 67) : Ow LbR 2 67 B w' t l := by
  obtain ⟨P, h1, h2, h3, h4⟩ := h
  exact ⟨P, h1, h2, h3, h4.kept hg (own_off h4 ho)⟩
theorem LvO.turn {B : Nat} {w w' : World} {row : Option Nat} {l : List Lb} {c : List Value} (h : LvO B w l c) (hg : w.grownBy w' row) (ho : Off w row 67) : LvO B w' l c := by
  obtain ⟨t, h1, h2⟩ := h
  exact ⟨t, h1, ow_turn h2 hg ho⟩
/-- The lists. -/
structure AllAt (B mb xb : Nat) (L : List (List Lb)) (ao : Option Addr) (n c : Nat) (w : World) : Prop where
  box : w.heap[xb]? = some (.cells #[.slice ao n c, .map (some mb)] 93 (0, 0))
  all : Ow (LvO B) 1 63 B w (.slice ao n c) L
  len : L.length = n
  low : B ≤ xb
theorem AllAt.turn {B mb xb : Nat} {L : List (List Lb)} {ao : Option Addr} {n c : Nat} {w w' : World} {row : Option Nat} (h : AllAt B mb xb L ao n c w) (hg : w.grownBy w' row) (hx : row ≠ some xb) (h1 : Off w row 67) (h2 : Off w row 63) : AllAt B mb xb L ao n c w' := by
  obtain ⟨P, p1, p2, p3, p4⟩ := h.all
  exact ⟨(hg.block xb (Array.getElem?_eq_some_iff.1 h.box).1 (fun e => hx e.symm)).trans h.box, ⟨P, p1, p2, fun q hq => (p3 q hq).turn hg h1, p4.kept hg (own_off p4 h2)⟩, h.len, h.low⟩
theorem AllAt.below {B mb xb : Nat} {L : List (List Lb)} {ao : Option Addr} {n c : Nat} {w w' : World} (h : AllAt B mb xb L ao n c w) (hb : Below w.heap.size w w') : AllAt B mb xb L ao n c w' := h.turn (grown_of_below hb) (by simp) (off_none _ _) (off_none _ _)
theorem AllAt.cells {B mb xb : Nat} {L : List (List Lb)} {ao : Option Addr} {n c : Nat} {w : World} (h : AllAt B mb xb L ao n c w) : (w.cell? ⟨xb, 0, none⟩ = some (.slice ao n c) ∧ w.cell? ⟨xb, 1, none⟩ = some (.map (some mb))) ∧ (w.frozen? ⟨xb, 0, none⟩ = false ∧ w.frozen? ⟨xb, 1, none⟩ = false) := bx2 h.box
/-- The map. -/
def GrpAt (mb : Nat) (E : List (Lb × Int)) (w : World) : Prop := ∃ D : DU, w.ownsGroups Try.prog 67 (mb + 1) 3 .i64 mb E.length D ∧ GrD D E
theorem groups_off {w : World} {P : Program} {k e : TypeId} {base b n : Nat} {q : IntKind} {D : DU} {row : Option Nat} (h : w.ownsGroups P k base e q b n D) (ho : Off w row e) : ∀ es clock, w.heap[b]? = some (.map es clock) → ∀ x ∈ es.toList, x.val.ownBlock = none ∨ x.val.ownBlock ≠ row := fun es clock hb x hx => by
  obtain ⟨es', clock', hb', F, _⟩ := h
  obtain ⟨rfl, rfl⟩ : es' = es ∧ clock' = clock := by rw [hb'] at hb; simpa using hb
  obtain ⟨y, hy⟩ := F.reads x hx
  obtain ⟨z, hz, _⟩ := WideElems.rd_val hy
  obtain ⟨zs, hoi, _⟩ := rowElem_inv hz
  exact own_off hoi.1 ho
theorem GrpAt.turn {mb : Nat} {E : List (Lb × Int)} {w w' : World} {row : Option Nat} (h : GrpAt mb E w) (hg : w.grownBy w' row) (hm : row ≠ some mb) (ho : Off w row 3) : GrpAt mb E w' := by
  obtain ⟨D, h1, h2⟩ := h
  exact ⟨D, h1.kept hg (fun e => hm e.symm) (groups_off h1 ho), h2⟩
theorem GrpAt.below {mb : Nat} {E : List (Lb × Int)} {w w' : World} (h : GrpAt mb E w) (hb : Below w.heap.size w w') : GrpAt mb E w' := h.turn (grown_of_below hb) (by simp) (off_none _ _)
theorem zeroIs (u : World) : (zeroValue 35).run Try.prog u = .ok (.slice none 0 0) u := by kernel_rfl
/-- A place is put to a label's: what the entry holds, and the way back. -/
theorem GrpAt.open {mb : Nat} {E : List (Lb × Int)} {w : World} (h : GrpAt mb E w) (hE : E.length < 1000000000) {y : Lb} (hy : Fits2 y) (i : Int) (hi : (Lit.int .i64 i).wf = true) :
    ∃ (v : Value) (st : Nat) (o1 : Obj), (∀ W : World, W.heap[mb]? = w.heap[mb]? → (Instr.mapEntry 91 (.map (some mb)) (lbV y)).run Try.prog W = .ok (.tuple #[v, .int .i64 (st : Int)]) (ChangeMaps.setBlock W mb o1)) ∧
      (∀ e', Off w (some mb) e') ∧ (∀ W' : World, W'.heap[mb]? = some o1 → ∀ e', Off W' (some mb) e') ∧ mb < w.heap.size ∧ w.ownsRow (mb + 1) 3 1 v (plc E y).length ((plc E y).map (Value.int .i64)) ∧ (plc E y).length ≤ E.length ∧
      ∀ (w1 : World) (v' : Value), (ChangeMaps.setBlock w mb o1).grownBy w1 v.ownBlock → w1.ownsRow (mb + 1) 3 1 v' ((plc E y).length + 1) ((plc E y).map (Value.int .i64) ++ [.int .i64 i]) → (v'.ownBlock = v.ownBlock ∨ ∃ g, v'.ownBlock = some g ∧ w.heap.size ≤ g) →
        ∃ w2, (Instr.entryStore 91 (.map (some mb)) (.int .i64 (st : Int)) v').run Try.prog w1 = .ok () w2 ∧ GrpAt mb (E ++ [(y, i)]) w2 ∧ w1.grownBy w2 (some mb) := by
  obtain ⟨D, h1, h2⟩ := h
  obtain ⟨v, zs, st, o1, ⟨es1, k1, ho1⟩, ⟨o0, ho0, hent⟩, hat, hoi, hzl, hbb, hback⟩ := groups_open h1 law Try.underlying91 zeroIs (by unfold maxLen; omega) (keyLb y hy)
  obtain rfl := h2.zs hy hoi hat
  refine ⟨v, st, o1, fun W hW => hent W (hW.trans ho0), fun e' => ?_, fun W' hW' e' => off_map (hW'.trans (congrArg some ho1)), (Array.getElem?_eq_some_iff.1 ho0).1, hoi.1, hzl, fun w1 v' hg hown hloc => ?_⟩
  · obtain ⟨es, clock, hb, _⟩ := h1
    exact off_map hb
  · have hown' : w1.ownsInts (mb + 1) 3 .i64 v' (plc E y ++ [i]) := by
      refine ⟨?_, fun z hz => ?_⟩
      · rw [List.length_append, List.length_singleton, List.map_append]
        exact hown
      · rcases List.mem_append.1 hz with hz | hz
        · exact hoi.2 z hz
        · obtain rfl : z = i := by simpa using hz
          exact hi
    obtain ⟨w2, hr, ho2, hg2⟩ := hback w1 v' _ hg hown' (by simp; omega) hloc
    refine ⟨w2, hr, ⟨_, ?_, h2.put hy i⟩, hg2⟩
    rw [List.length_append, List.length_singleton, ← hown'.datum_pos (H := Unit) (by simp)]
    exact ho2
theorem grown_swap {w : World} {b : Nat} {o o1 : Obj} (hb : b < w.heap.size) (row : Option Nat) : (ChangeMaps.setBlock w b o1).grownBy (ChangeMaps.setBlock (w.alloc o) b o1) row := by
  refine ⟨rfl, rfl, rfl, by rw [setBlock_size, setBlock_size]; simp, fun i hi _ => ?_⟩
  rw [setBlock_size] at hi
  by_cases e : i = b
  · subst e
    obtain ⟨x, hx⟩ : ∃ x, w.heap[i]? = some x := ⟨_, Array.getElem?_eq_getElem hi⟩
    rw [setBlock_heap hx, setBlock_heap ((Below.heap_alloc w o i hi).trans hx)]
  · rw [setBlock_else e, setBlock_else e, Below.heap_alloc w o i hi]
theorem grown_block (w : World) (b : Nat) (o1 : Obj) : w.grownBy (ChangeMaps.setBlock w b o1) (some b) := ⟨rfl, rfl, rfl, by rw [setBlock_size]; exact Nat.le_refl _, fun i hi hne => setBlock_else (fun e1 => hne (by rw [e1]))⟩
/-- append of some cells to a row of one's own, as one step of a region that draws; and where the new row lies. -/
theorem step_app_at {P : Program} {ops : Array Oper} {o : Oper} {a : Act} {K : Act → World → Prop} {Q : Exit → Act → World → Prop} {E : Prop} {W : World} {B : Nat} {t e : TypeId} {size bytes n m c : Nat} {ad : Addr} {xs news : List Value} {v : Value}
    (el : Elem P t e size bytes) (hgd : o.guard = none) (s x : Operand) (ho : o.op = .call { callee := .builtin .append, args := #[s, x], argTypes := #[t, t] })
    (hown : W.ownsRow B e size v n xs) (hs : a.eval s = v) (hx : a.eval x = .slice (some ad) m c) (hl : news.length = m * size) (hnews : ∀ j u, news[j]? = some u → W.cell? (ad.add j) = some u) (h1 : ∀ u ∈ news, u.oneCell' = true) (h47 : (n + m) * bytes ≤ 140737488355328) (h63 : n + m ≤ 9223372036854775807) (hB : B ≤ W.heap.size)
    (h : ∀ v' w', w'.ownsRow B e size v' (n + m) (xs ++ news) → W.grownBy w' v.ownBlock → (v'.ownBlock = v.ownBlock ∨ v'.ownBlock = some W.heap.size) → K (a.put o.dst v') w') :
    if Region.wanted o (yielded ops a.tmps) = true then Oper.wp P o a W K Q else E := by
  have hw : Region.wanted o (yielded ops a.tmps) = true := by unfold Region.wanted; rw [hgd]
  rw [if_pos hw]
  obtain ⟨i, z, h2, h3, h4, h5, h6⟩ := el.info
  obtain ⟨v', w', hr, r1, r2, -, r3⟩ := run_append_own_at (P := P) W B t o.type e i z size bytes el.und h2 h3 h4 h5 h6 el.pos v n xs hown ad m c news hl hnews h1 (by unfold maxLen; exact h63) h47 hB
  unfold Oper.wp execOp
  simp only [ho, resolve, invoke, builtin, Sem.run_bind, Sem.run_pure, Result.andThen_ok, List.map_toArray, List.map_cons, List.map_nil, hs, hx, hr]
  exact h v' w' r1 r2 r3
end Go.Proofs.Ytlfhcjhbnakamaa.Iy
/-
  Contracts of the library at this program, laid by the kit's own tool (in plain words).
-/
namespace Go.Proofs
open Go.Shelf
def Ytlfhcjhbnakamaa.laysSlM6_f41_ren : Go.Shelf.Ren := ⟨fun | 6 => 41 | 8 => 52 | 9 => 64 | 19 => 81 | 20 => 82 | 21 => 91 | 22 => 92 | 23 => 93 | 24 => 94 | 25 => 95 | 26 => 96 | 27 => 97 | 28 => 98 | 29 => 99 | 36 => 112 | 31 => 106 | 32 => 107 | 37 => 113 | 38 => 114 | 39 => 115 | 41 => 128 | n => n, fun | 27 => 65 | 29 => 9 | 3 => 3 | 32 => 76 | 26 => 65 | 0 => 0 | 44 => 117 | 46 => 22 | 4 => 4 | 36 => 110 | 35 => 109 | 41 => 82 | 5 => 5 | 9 => 9 | 53 => 133 | 57 => 137 | 63 => 143 | 64 => 144 | n => n, fun | n => n⟩
theorem Ytlfhcjhbnakamaa.laysSlM6_f41 : Go.Proofs.SlLaysM.n6 Try.prog Ytlfhcjhbnakamaa.laysSlM6_f41_ren := {
  mixed := by kernel_rfl
  f6 := ⟨Try.f41.name, by decide, Try.func41.trans (congrArg some (by kernel_rfl))⟩
  f8 := Try.func52.trans (congrArg some (by kernel_rfl))
  f9 := ⟨Try.f64.name, by decide, Try.func64.trans (congrArg some (by kernel_rfl))⟩
  f19 := Try.func81.trans (congrArg some (by kernel_rfl))
  f20 := Try.func82.trans (congrArg some (by kernel_rfl))
  f21 := ⟨Try.f91.name, by decide, Try.func91.trans (congrArg some (by kernel_rfl))⟩
  f22 := ⟨Try.f92.name, by decide, Try.func92.trans (congrArg some (by kernel_rfl))⟩
  f23 := ⟨Try.f93.name, by decide, Try.func93.trans (congrArg some (by kernel_rfl))⟩
  f24 := ⟨Try.f94.name, by decide, Try.func94.trans (congrArg some (by kernel_rfl))⟩
  f25 := ⟨Try.f95.name, by decide, Try.func95.trans (congrArg some (by kernel_rfl))⟩
  f26 := ⟨Try.f96.name, by decide, Try.func96.trans (congrArg some (by kernel_rfl))⟩
  f27 := ⟨Try.f97.name, by decide, Try.func97.trans (congrArg some (by kernel_rfl))⟩
  f28 := ⟨Try.f98.name, by decide, Try.func98.trans (congrArg some (by kernel_rfl))⟩
  f29 := ⟨Try.f99.name, by decide, Try.func99.trans (congrArg some (by kernel_rfl))⟩
  f31 := Try.func106.trans (congrArg some (by kernel_rfl))
  f32 := Try.func107.trans (congrArg some (by kernel_rfl))
  f36 := ⟨Try.f112.name, by decide, Try.func112.trans (congrArg some (by kernel_rfl))⟩
  f37 := ⟨Try.f113.name, by decide, Try.func113.trans (congrArg some (by kernel_rfl))⟩
  f38 := ⟨Try.f114.name, by decide, Try.func114.trans (congrArg some (by kernel_rfl))⟩
  f39 := ⟨Try.f115.name, by decide, Try.func115.trans (congrArg some (by kernel_rfl))⟩
  f41 := ⟨Try.f128.name, by decide, Try.func128.trans (congrArg some (by kernel_rfl))⟩
  t0 := Try.underlying0
  a0 := Try.isAgg0
  z0 := Try.sizeOf0
  v0 := Try.zeroValue0
  t3 := Try.underlying3
  a3 := Try.isAgg3
  z3 := Try.sizeOf3
  v3 := Try.zeroValue3
  t4 := Try.underlying4
  a4 := Try.isAgg4
  z4 := Try.sizeOf4
  v4 := Try.zeroValue4
  t5 := Try.underlying5
  a5 := Try.isAgg5
  z5 := Try.sizeOf5
  v5 := Try.zeroValue5
  t9 := Try.underlying9
  a9 := Try.isAgg9
  z9 := Try.sizeOf9
  v9 := Try.zeroValue9
  t26 := Try.underlying65
  a26 := Try.isAgg65
  z26 := Try.sizeOf65
  v26 := Try.zeroValue65
  t27 := Try.underlying65
  a27 := Try.isAgg65
  z27 := Try.sizeOf65
  v27 := Try.zeroValue65
  t29 := Try.underlying9
  a29 := Try.isAgg9
  z29 := Try.sizeOf9
  v29 := Try.zeroValue9
  t32 := Try.underlying76
  a32 := Try.isAgg76
  z32 := Try.sizeOf76
  v32 := Try.zeroValue76
  t35 := Try.underlying109
  a35 := Try.isAgg109
  z35 := Try.sizeOf109
  v35 := Try.zeroValue109
  t36 := Try.underlying110
  a36 := Try.isAgg110
  z36 := Try.sizeOf110
  v36 := Try.zeroValue110
  t41 := Try.underlying82
  a41 := Try.isAgg82
  z41 := Try.sizeOf82
  v41 := Try.zeroValue82
  t44 := Try.underlying117
  a44 := Try.isAgg117
  z44 := Try.sizeOf117
  v44 := Try.zeroValue117
  t46 := Try.underlying22
  a46 := Try.isAgg22
  z46 := Try.sizeOf22
  v46 := Try.zeroValue22
  t53 := Try.underlying133
  a53 := Try.isAgg133
  z53 := Try.sizeOf133
  v53 := Try.zeroValue133
  t57 := Try.underlying137
  a57 := Try.isAgg137
  z57 := Try.sizeOf137
  v57 := Try.zeroValue137
  t63 := Try.underlying143
  a63 := Try.isAgg143
  z63 := Try.sizeOf143
  v63 := Try.zeroValue143
  t64 := Try.underlying144
  a64 := Try.isAgg144
  z64 := Try.sizeOf144
  v64 := Try.zeroValue144 }
open Go.Sort Go.RowKit in
theorem Ytlfhcjhbnakamaa.slices_Sort_string (blk off cap : Nat) (ss : List (List UInt8)) (w : World) (hH : Holds encStr w blk off ss.toArray) (hblk : blk < w.heap.size) (hsz : ss.length < 4611686018427387904) :
    Calls Try.prog 41 #[.slice (some ⟨blk, off, none⟩) ss.length cap] w fun e w' =>
      e = .returned (.tuple #[]) ∧ ∃ n os, w' = grow (putRow encStr (Sort.ahead w n) blk off (ss.mergeSort fun x y => decide (x ≤ y)).toArray) os := AnyM.slices_Sort_string Ytlfhcjhbnakamaa.laysSlM6_f41 blk off cap ss w hH hblk hsz
open Go.RowKit Go.Sort in
theorem Ytlfhcjhbnakamaa.slices_Sort_string_none (p : Option Addr) (cap : Nat) (w : World) :
    Calls Try.prog 41 #[.slice p 0 cap] w fun e w' => e = .returned (.tuple #[]) ∧ w' = w := AnyM.slices_Sort_string_none Ytlfhcjhbnakamaa.laysSlM6_f41 p cap w
end Go.Proofs
/-
  slices.Sort at []string, of a row of the call's own.
-/
namespace Go.Proofs.Ytlfhcjhbnakamaa.SortSt
open Go.RowKit Go.Gh
set_option linter.unusedVariables false
/-- A text's cell. -/
def sV (s : By) : Value := .string (mkS s)
theorem sV_enc : sV = encStr := rfl
theorem infoStr : (Try.prog.info? 9).map (fun i => (i.zero, i.size, i.bytes)) = some (some (.string ByteArray.empty), 1, 16) := by kernel_rfl
theorem elStr : Elem Try.prog 65 9 1 16 := elem_of Try.underlying65 infoStr rfl (by decide)
def srtS (l : List By) : List By := l.mergeSort fun x y => decide (x ≤ y)
theorem grownBy_selfS (w : World) (r : Option Nat) : w.grownBy w r := ⟨rfl, rfl, rfl, Nat.le_refl _, fun k _ _ => rfl⟩
theorem sortS_own (v : Value) (n B : Nat) (l : List By) (w : World) (h : w.ownsRow B 9 1 v n (l.map sV)) (hn : n < 4611686018427387904) :
    Calls Try.prog 41 #[v] w fun e w' => e = .returned (.tuple #[]) ∧ w'.ownsRow B 9 1 v n ((srtS l).map sV) ∧ w.grownBy w' v.ownBlock := by
  have hl : l.length = n := by simpa using h.1
  have h0 := h
  rcases h.2 with ⟨rfl, hn0⟩ | ⟨g, cap, cur, rfl, hb, hg, hn1, hm, hs, ht⟩
  · refine (Ytlfhcjhbnakamaa.slices_Sort_string_none none 0 w).mono ?_
    rintro e w' ⟨rfl, rfl⟩
    have hln : l = [] := List.length_eq_zero_iff.1 (by rw [hl, hn0])
    subst hln
    exact ⟨rfl, by simpa [srtS] using h0, grownBy_selfS _ _⟩
  · have h1 := Ytlfhcjhbnakamaa.slices_Sort_string g 0 cap l w (holds_of_block hg (by rw [hl]; rw [Nat.mul_one] at ht; exact ht)) (Array.getElem?_eq_some_iff.1 hg).1 (by omega)
    rw [hl] at h1
    refine h1.mono ?_
    rintro e w' ⟨rfl, q, os, rfl⟩
    refine ⟨rfl, ?_, grownBy_sorted _⟩
    have h2 := ownsRow_sorted (n := q) (os := os) (e := 9) (ts := l.mergeSort fun x y => decide (x ≤ y)) (ss := l) (List.length_mergeSort _) hb hg (by omega) hm hs
    rw [hl] at h2
    exact h2
end Go.Proofs.Ytlfhcjhbnakamaa.SortSt
/-
  The index: the walk of Values, a range over the keys of a map.
-/
namespace Go.Proofs.Ytlfhcjhbnakamaa.Iy
open Go.RowKit Go.Shelf Go.Gh Go.Maps Go.Proofs.Ytlfhcjhbnakamaa.Rk Go.Proofs.Ytlfhcjhbnakamaa.SortSt
set_option linter.unusedVariables false
set_option linter.unusedSimpArgs false
attribute [local go_sem] Oper.semAt_some
/-- The values of a name among labels. -/
def valsOf (nm : By) (ys : List Lb) : List By := (ys.filter (fun y => decide (y.nm = nm))).map (·.vl)
theorem valsOf_snoc (nm : By) (ys : List Lb) (y : Lb) : valsOf nm (ys ++ [y]) = if y.nm = nm then valsOf nm ys ++ [y.vl] else valsOf nm ys := by
  unfold valsOf
  rw [List.filter_append, List.map_append]
  by_cases h : y.nm = nm
  · rw [if_pos h]; simp [h]
  · rw [if_neg h]; simp [h]
theorem valsOf_len (nm : By) (ys : List Lb) : (valsOf nm ys).length ≤ ys.length := by
  unfold valsOf
  rw [List.length_map]
  exact List.length_filter_le _ _
/-- What Values answers. -/
def ValP (w : World) (nm : By) (E : List (Lb × Int)) (e : Ending) (w' : World) : Prop := ∃ (ys : List Lb) (v : Value), e = .returned v ∧ (ys.Nodup ∧ ∀ y, Fits2 y → (y ∈ ys ↔ plc E y ≠ [])) ∧ (∀ y ∈ ys, Fits2 y) ∧ w'.ownsRow w.heap.size 9 1 v (valsOf nm ys).length ((srtS (valsOf nm ys)).map sV) ∧ Below w.heap.size w w'
set_option maxHeartbeats 8000000 in
set_option maxRecDepth 100000 in
theorem values_any {B mb xb : Nat} {L : List (List Lb)} {E : List (Lb × Int)} {ao : Option Addr} {n c : Nat} (nm : By) (w : World) (hA : AllAt B mb xb L ao n c w) (hG : GrpAt mb E w) (hE : E.length ≤ 1000000) :
    Calls Try.prog 43 #[.pointer (some ⟨xb, 0, none⟩), .string (mkS nm)] w (ValP w nm E) := by
  obtain ⟨⟨d0, d1⟩, -⟩ := hA.cells
  have hxl : xb < w.heap.size := (Array.getElem?_eq_some_iff.1 hA.box).1
  obtain ⟨D, hD, hGD⟩ := hG
  have hown : w.ownsMap Try.prog 67 (rowElem w (mb + 1) 3 .i64) mb E.length D := by
    obtain ⟨es, clock, hb, F, hs, hd, _⟩ := hD
    exact ⟨es, clock, hb, F, hs, hd⟩
  obtain ⟨Sn, hSn⟩ : ∃ S, S = mkS nm := ⟨_, rfl⟩
  rw [← hSn]
  have HSN := Lib.hid hSn
  clear hSn
  refine (callsIn_wide (n := 9)).1 ?_
  refine callsIn_of_wp_marks Try.func43 rfl trivial ?_ rfl
  simp only [Try.ntmps43, List.size_toArray, List.length_cons, List.length_nil, Nat.reduceAdd, Nat.reduceSub, Array.replicate_succ, Array.replicate_zero, List.push_toArray, List.append_toArray, List.nil_append, List.cons_append]
  have d1b := fun o1 o2 => (((((Below.refl w.heap.size w).alloc (Nat.le_refl _) o1).alloc (by simp) o2)).cell (p := ⟨xb, 1, none⟩) hxl).trans d1
  gi_wp2_with (refine ⟨trivial, ?_⟩; gi_at_call 65; refine (keys_in _ _ trivial rfl _ _).mono ?_; rintro e w' ⟨rfl, rfl⟩)
  obtain ⟨W0, hW0⟩ : ∃ W0, W0 = (((w.alloc (Obj.cells #[.string Sn] 9)).alloc (Obj.cells #[.slice none 0 0] 65)).alloc (Obj.cells #[.map (some mb)] 91)) := ⟨_, rfl⟩
  have hs0 : W0.heap.size = w.heap.size + 3 := by rw [hW0]; simp
  have hB0 : Below w.heap.size w W0 := by rw [hW0]; exact (((Below.refl _ w).alloc (Nat.le_refl _) _).alloc (by simp) _).alloc (by simp; omega) _
  have hq0 : W0.heap[w.heap.size]? = some (.cells #[.string Sn] 9 (0, 0)) := by
    rw [hW0]; exact ((Below.heap_alloc _ _ _ (by simp; omega)).trans (Below.heap_alloc _ _ _ (by simp))).trans (World.alloc_heap_new w _)
  have hq1 : W0.heap[w.heap.size + 1]? = some (.cells #[.slice none 0 0] 65 (0, 0)) := by
    rw [hW0]; refine (Below.heap_alloc _ _ _ (by simp)).trans ?_
    have := World.alloc_heap_new (w.alloc (.cells #[.string Sn] 9)) (.cells #[.slice none 0 0] 65); rwa [World.size_alloc] at this
  have hq2 : W0.heap[w.heap.size + 1 + 1]? = some (.cells #[.map (some mb)] 91 (0, 0)) := by
    rw [hW0]; have := World.alloc_heap_new ((w.alloc (.cells #[.string Sn] 9)).alloc (.cells #[.slice none 0 0] 65)) (.cells #[.map (some mb)] 91); rwa [World.size_alloc, World.size_alloc] at this
  have hown0 := ownsMap_below hown hB0
  have hsz9 : Maps.size D ≤ 1000000 := by
    obtain ⟨es, clock, hb, F, hs, hd⟩ := hown
    have h1 : Maps.size D = es.size := by rw [hd]; show ((es.toList.map _).foldr DataW.insert []).length = _; rw [length_sorted]; simp
    omega
  rw [← hW0]
  have hI : OwnFrom W0.heap.size (fun (pre : List Lb) W => (∃ v, Boxed W (w.heap.size + 1) 65 v ∧ W.ownsRow (w.heap.size + 1) 9 1 v (valsOf nm pre).length ((valsOf nm pre).map sV) ∧ pre.length ≤ Maps.size D) ∧ Below (w.heap.size + 1) W0 W) :=
    OwnFrom.and (Own.from (holdsRow_own (w.heap.size + 1) (w.heap.size + 1) 65 9 1 (fun pre : List Lb => (valsOf nm pre).length) (fun pre => (valsOf nm pre).map sV) (fun (pre : List Lb) _ => pre.length ≤ Maps.size D)) _) (ownFrom_below (by rw [hs0]; omega) (by rw [hs0]; omega))
  have HI := Lib.hid hI
  have hcm := (row_cell 0 _ hq2 rfl).1
  clear hq2 hW0 d1b hI
  refine wpIn_rangeFunc_ownH rfl (by decide) (gf := 100) (lb := #[.pointer (some ⟨w.heap.size + 1 + 1, 0, none⟩)]) rfl trivial (enters_of Try.func100 (by kernel_rfl) rfl)
    (keys_stops Fence.wide 8 trivial rfl (by decide) (w.heap.size + 1 + 1) mb E.length D W0 (by omega) hcm hown0) walksK_t walksK_b (Below.refl _ _) (fun _ => rfl)
    (fun (pre : List Lb) W => (∃ v, Boxed W (w.heap.size + 1) 65 v ∧ W.ownsRow (w.heap.size + 1) 9 1 v (valsOf nm pre).length ((valsOf nm pre).map sV) ∧ pre.length ≤ Maps.size D) ∧ Below (w.heap.size + 1) W0 W)
    (fun _ _ _ => False) HI.out (fun c => fun s A B row hs _ _ => hs)
    ⟨⟨_, hq1, World.ownsRow_nil _ _ _ _, Nat.zero_le _⟩, Below.refl _ _⟩
    (fun x a' W => ∃ Bx, W0.heap.size ≤ Bx ∧ W.heap[Bx]? = some (.cells #[.string (mkS x.nm), .string (mkS x.vl)] 67 (0, 0)) ∧ a' = { tmps := #[.pointer (some ⟨xb, 0, none⟩), .string Sn, undef, .pointer (some ⟨w.heap.size, 0, none⟩), .slice none 0 0, .pointer (some ⟨w.heap.size + 1, 0, none⟩), .pointer (some ⟨Bx, 0, none⟩), .pointer (some ⟨xb, 0, none⟩), .pointer (some ⟨xb, 0, none⟩), .pointer (some ⟨xb, 1, none⟩), .map (some mb), .func (.func 100) #[] #[.pointer (some ⟨w.heap.size + 1 + 1, 0, none⟩)], .agg #[.string (mkS x.nm), .string (mkS x.vl)], undef, undef, undef, undef, undef, undef, undef, undef, undef, undef, undef, undef], defers := [] })
    (fun x a' => fun s A B row hs hg hr => by
      obtain ⟨Bx, h1, h2, h3⟩ := hs
      exact ⟨Bx, h1, (hg.block _ (Array.getElem?_eq_some_iff.1 h2).1 (fun e => by obtain ⟨-, o, ho, hc⟩ := hr _ e.symm; rw [h2] at ho; cases ho; cases hc)).trans h2, h3⟩) ?assign ?body ?done ?stop
  case assign =>
    intro l pre x W K hi hK
    have hsW : W0.heap.size ≤ W.heap.size := hi.2.size
    have hi2 := HI.out.alloc (.cells #[.string (mkS x.nm), .string (mkS x.vl)] 67) hi
    have hlb : lbV x = .agg #[.string (mkS x.nm), .string (mkS x.vl)] := rfl
    gi_wp2
    exact hK _ _ ((KeepsOthers.alloc _ _).from _) (KeepsWalks.alloc _ _) hi2 ⟨W.heap.size, hsW, heap_alloc_new W _, rfl⟩
  case body =>
    rintro l pre x a' W hl hr ⟨⟨v, hbx, hrow, -⟩, hB⟩ ⟨Bx, hBx, hx, rfl⟩ hlen
    have hn0 := (hB.block w.heap.size (Nat.lt_succ_self _)).trans hq0
    have hk := valsOf_len nm pre
    obtain ⟨k, hkk⟩ : ∃ k, (valsOf nm pre).length = k := ⟨_, rfl⟩
    rw [hkk] at hrow hk
    obtain ⟨vo, vc, rfl, -, -, -⟩ := own_shape hrow
    have cn := (row_cell 0 _ hn0 rfl).1
    have x0 := (row_cell 0 _ hx rfl).1
    have x1 := (row_cell 1 _ hx rfl).1
    have b0 := hbx.cell
    have bf := hbx.frozen
    have hsW : W0.heap.size ≤ W.heap.size := hB.size
    have hwW : w.heap.size + 1 ≤ W.heap.size := by omega
    have hk2 : k ≤ 1000000 := by omega
    have HBX := Lib.hid hbx
    have HROW := Lib.hid hrow
    have HBB := Lib.hid hB
    have HKK := Lib.hid hkk
    by_cases hnm : x.nm = nm
    · have t1 : ((mkS x.nm).toList == Sn.toList) = true := by rw [HSN.out, hnm]; simp
      have HV : Hid (valsOf nm (pre ++ [x]) = valsOf nm pre ++ [x.vl]) := Lib.hid (by rw [valsOf_snoc, if_pos hnm])
      obtain ⟨i0, hi, hz0, hz1, hz2⟩ := info_parts infoStr
      clear hnm hbx hn0 hx hB hkk
      gi_wp2_with (gi_at_builtin; refine wpListIn_append_own _ rfl _ _ 65 rfl (w.heap.size + 1) 9 i0 (.string ByteArray.empty) 1 16 Try.underlying65 hi hz0 hz1 hz2 rfl (by decide) _ _ _ rfl (HROW.out.alloc _) ⟨W.heap.size, 0, none⟩ 1 1 [.string (mkS x.vl)] rfl rfl (cell_one_new _ _ _) (by simp [Value.oneCell']) (by unfold maxLen; omega) (by omega) (by simp; omega) ?_; intro v' w1 hown' hgrow _; obtain ⟨g', cap', rfl⟩ := ownsRow_succ hown'; obtain ⟨hv1, hv2, hr2, hk3, hb2⟩ := HBX.out.appended (by decide) HROW.out hwW (Nat.le_refl _) hown' hgrow; have hc1 := hv1.cell; have hf1 := hv1.frozen)
      exact ⟨hk3.from _, hk3.walks, ⟨_, hv2, by rw [HV.out, List.length_append, List.length_singleton, HKK.out, List.map_append]; exact hr2, by simp; omega⟩, HBB.out.trans hb2⟩
    · have t1 : ((mkS x.nm).toList == Sn.toList) = false := by
        rw [HSN.out, beq_eq_false_iff_ne]
        intro e
        exact hnm (by rw [mkS_list, mkS_list] at e; exact e)
      have HV : Hid (valsOf nm (pre ++ [x]) = valsOf nm pre) := Lib.hid (by rw [valsOf_snoc, if_neg hnm])
      clear hnm hbx hn0 hx hB hkk
      gi_wp2
      exact ⟨(KeepsOthers.refl _).from _, (KeepsOthers.refl _).walks, ⟨_, HBX.out, by rw [HV.out, HKK.out]; exact HROW.out, by simp; omega⟩, HBB.out⟩
  case done =>
    rintro Dd ys W hDd ⟨hnd, hmem⟩ ⟨⟨v, hbx, hrow, hyl⟩, hB⟩ hK
    obtain ⟨k, hkk⟩ : ∃ k, (valsOf nm ys).length = k := ⟨_, rfl⟩
    have hk9 := valsOf_len nm ys
    rw [hkk] at hrow hk9
    obtain ⟨vo, vc, rfl, -, -, -⟩ := own_shape hrow
    have b0 := hbx.cell
    have HBX := Lib.hid hbx
    have HROW := Lib.hid hrow
    have HBB := Lib.hid hB
    have HKK := Lib.hid hkk
    have HK := Lib.hid hK
    have HDd := Lib.hid hDd
    have HND := Lib.hid (And.intro hnd hmem)
    have hk62 : k < 4611686018427387904 := by omega
    have hNB : some (w.heap.size + 1) ≠ (Value.slice vo k vc).ownBlock := hbx.not_row (by decide) hrow
    have hND2 : (Value.slice vo k vc).ownBlock ≠ some Dd := by
      rcases hrow.2 with ⟨e1, _⟩ | ⟨g, cap, cur, e1, _, hgb, _⟩
      · injection e1 with e1
        subst e1
        simp [Value.ownBlock]
      · intro e
        rw [e1] at e
        obtain rfl : g = Dd := by simpa [Value.ownBlock] using e
        rw [hK] at hgb
        cases hgb
    have HNN := Lib.hid (And.intro hNB hND2)
    clear hkk hbx hrow hB hnd hmem hK hDd hNB hND2
    gi_wp2_with (refine ⟨trivial, ?_⟩; gi_at_call 41; refine (callsIn_wide.2 (sortS_own _ k (w.heap.size + 1) (valsOf nm ys) _ HROW.out hk62)).mono ?_; rintro e w7 ⟨rfl, hown7, hg7⟩; have HOWN7 := Lib.hid hown7; have HG7 := Lib.hid hg7; have hbx7 := HBX.out.kept hg7 HNN.out.1; have b7 := hbx7.cell; clear hown7 hg7 hbx7)
    have hK7 : w7.heap[Dd]? = some (.deferred (some [])) := (HG7.out.block Dd (Array.getElem?_eq_some_iff.1 HK.out).1 (fun e => HNN.out.2 e.symm)).trans HK.out
    refine ⟨by simp, .inl ⟨_, _, rfl, run_takeDeferred hK7, ?_⟩⟩
    refine ⟨.slice vo k vc, by simp [results, Try.results43, go_sem], ys, _, rfl, ⟨HND.out.1, fun y hy => ?_⟩, fun y hy => ((HND.out.2 y).1 hy).1, ?_, ?_⟩
    · rw [HND.out.2 y]
      constructor
      · rintro ⟨-, h⟩
        obtain ⟨z, hz, e, hne⟩ := hGD.has _ h
        rw [kl_inj hy hz e]
        exact hne
      · intro h
        exact ⟨hy, hGD.mem y hy h⟩
    · rw [HKK.out]
      exact own_mono (ownsRow_putObj HOWN7.out _ hK7 rfl) (Nat.le_succ _)
    · have h1 := hB0.trans (HBB.out.mono (Nat.le_succ _))
      have h2 := h1.grown HG7.out h1.size (fun j hj => Nat.le_trans (Nat.le_succ _) (HROW.out.lt j hj).1)
      exact h2.trans (belowK_b (w := w) (Nat.le_refl _) w7 Dd _ _ (by have := HDd.out; omega) hK7 rfl rfl)
  case stop =>
    rintro D c pre W _ _ h _
    exact h.elim
end Go.Proofs.Ytlfhcjhbnakamaa.Iy
