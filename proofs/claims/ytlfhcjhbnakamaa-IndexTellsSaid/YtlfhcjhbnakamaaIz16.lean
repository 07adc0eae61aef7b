/-
  The walk of the law IndexTells.
-/
import Derived.Test.YtlfhcjhbnakamaaIz1
import Derived.Test.YtlfhcjhbnakamaaIz9
import Derived.Test.YtlfhcjhbnakamaaIz15
import Derived.Lib.SmallJoins
import Derived.ProofKit
import Derived.OpenShut
import Derived.Lib.LaidTab
import Derived.Shelf.Vars
import Derived.Test.YtlfhcjhbnakamaaRows
import Derived.HandedShaped
namespace Go.Proofs.Ytlfhcjhbnakamaa.IndexTells
open Go.RowKit Go.Gh Go.Maps Go.Proofs.Ytlfhcjhbnakamaa.Rk Go.Proofs.Ytlfhcjhbnakamaa.Lab Go.Proofs.Ytlfhcjhbnakamaa.Ix Go.Proofs.Ytlfhcjhbnakamaa.Iy Go.Proofs.Ytlfhcjhbnakamaa.SortSt
set_option linter.unusedVariables false
set_option linter.unusedSimpArgs false
def IsLls (w : World) (v : Value) : Prop := ∃ L : List (List Lb), Sp LvI 1 w v L ∧ L.length ≤ 140737488355328
def IsMtsI (w : World) (v : Value) : Prop := ∃ L : List Mt, Sp MtR 3 w v L
/-- Texts in a row of the call's own. -/
def OwS (B : Nat) (w : World) (v : Value) (l : List By) : Prop := w.ownsRow B 9 1 v l.length (l.map sV)
theorem flat10 : ∀ {L : List (List Lb)}, (∀ l ∈ L, l.length ≤ 10) → L.flatten.length ≤ 10 * L.length
  | [], _ => Nat.zero_le _
  | l :: r, h => by
    rw [List.flatten_cons, List.length_append, List.length_cons]
    have := flat10 (L := r) (fun x hx => h x (by simp [hx]))
    have := h l (by simp)
    omega
theorem flat_step {L : List (List Lb)} {k : Nat} {l : List Lb} (h : L[k]? = some l) : (L.take (k + 1)).flatten = (L.take k).flatten ++ l := by
  obtain ⟨h1, h2⟩ := List.getElem?_eq_some_iff.1 h
  rw [List.take_succ_eq_append_getElem h1, h2, List.flatten_append, List.flatten_singleton]
theorem part_step {A l : List Lb} {j : Nat} {y : Lb} (h : l[j]? = some y) : A ++ l.take (j + 1) = (A ++ l.take j) ++ [y] := by
  rw [List.take_add_one, h, List.append_assoc]
  rfl
theorem new_of {w : World} {L : List (List Lb)} {e : Ending} {w' : World} (h : NewP w L e w') : ∃ (xv : Value) (ev : Int), e = .returned (.tuple #[xv, .int .i64 ev]) ∧ Below w.heap.size w w' ∧ ((newF L ≠ 0 ∧ xv = .pointer none ∧ ev = newF L) ∨ (newF L = 0 ∧ xv = .pointer (some ⟨w.heap.size + 1, 0, none⟩) ∧ ev = 0 ∧ (∃ ao n c, AllAt w.heap.size w.heap.size (w.heap.size + 1) L ao n c w') ∧ GrpAt w.heap.size (prs 0 L) w')) := by
  obtain ⟨h1, ⟨h2, rfl⟩ | ⟨h2, rfl, h3, h4⟩⟩ := h
  · exact ⟨_, _, rfl, h1, Or.inl ⟨h2, rfl, rfl⟩⟩
  · exact ⟨_, _, rfl, h1, Or.inr ⟨h2, rfl, rfl, h3, h4⟩⟩
set_option maxHeartbeats 16000000 in
set_option maxRecDepth 100000 in
theorem walk (v0 v1 v2 : Value) (w : World) (h0 : IsLls w v0) (h1 : IsMtsI w v1) (h2 : IsString w v2) (hM : MTab w) :
    Calls Try.prog 7 #[v0, v1, v2] w fun e w' => e = .returned (.bool true) ∧ Below w.heap.size w w' := by
  obtain ⟨L, hL, hL9⟩ := h0
  obtain ⟨M, hMs⟩ := h1
  obtain ⟨s, rfl, -⟩ := h2
  obtain ⟨nm, rfl⟩ : ∃ nm, s = mkS nm := ⟨_, of_mkS s⟩
  obtain ⟨ao, c, rfl, hnc, hc⟩ := hL.shape
  obtain ⟨mo, mc, rfl, hmc, hmc2⟩ := hMs.shape
  obtain ⟨n, hn⟩ : ∃ n, L.length = n := ⟨_, rfl⟩
  obtain ⟨q, hq⟩ : ∃ q, M.length = q := ⟨_, rfl⟩
  have hnew := new_any _ L w hL
  rw [hn] at hL hL9 hnc hnew
  rw [hq] at hMs hmc
  rw [hn, hq]
  obtain ⟨Sn, hSn⟩ : ∃ S, S = mkS nm := ⟨_, rfl⟩
  rw [← hSn]
  have HN := Lib.hid hn
  have HQ := Lib.hid hq
  have HL := Lib.hid hL
  have HMS := Lib.hid hMs
  have HNEW := Lib.hid hnew
  have HSN := Lib.hid hSn
  have HMT := Lib.hid hM
  have hb00 := Lib.hid (Below.refl w.heap.size w)
  clear hn hq hL hMs hnew hSn hM
  by_cases hearly : 30 < n ∧ n ≤ 200
  · have t1 : decide ((30 : Int) < (n : Int)) = true := decide_eq_true (by omega)
    have t2 : decide ((n : Int) ≤ 200) = true := decide_eq_true (by omega)
    have t3 : decide (30 < n) = true := decide_eq_true (by omega)
    have t4 : decide (n ≤ 200) = true := decide_eq_true (by omega)
    clear hearly
    go_enter Try.func7, Try.ntmps7
    go_wp2_with fail
    go_ret
    exact ⟨rfl, hb00.out⟩
  go_enter Try.func7, Try.ntmps7
  go_upto_region 1 with (fail)
  go_cut [30] (fun t wx => t = .bool false ∧ w = wx)
  case first =>
    by_cases h30 : 30 < n
    · have t1 : decide (30 < n) = true := decide_eq_true h30
      have t2 : decide (n ≤ 200) = false := decide_eq_false (by omega)
      have t3 : decide ((30 : Int) < (n : Int)) = true := decide_eq_true (by omega)
      have t4 : decide ((n : Int) ≤ 200) = false := decide_eq_false (by omega)
      clear hearly
      go_wp2_with fail
      go_meet
      exact ⟨rfl, rfl⟩
    · have t1 : decide (30 < n) = false := decide_eq_false h30
      have t3 : decide ((30 : Int) < (n : Int)) = false := decide_eq_false (by omega)
      clear hearly
      go_wp2_with fail
      go_meet
      exact ⟨rfl, rfl⟩
  obtain ⟨rfl, hwx⟩ := hcut
  subst hwx
  go_wp2_with fail
  refine HNEW.out.mono ?_
  intro e w1 hP
  obtain ⟨xv, ev, rfl, hb1, hP⟩ := new_of hP
  have HP := Lib.hid hP
  have HB1 := Lib.hid hb1
  clear hP hb1 HNEW
  -- the fault
  obtain ⟨Z, hZ⟩ : ∃ Z, badK L 0 = Z := ⟨_, rfl⟩
  have HZ : Hid (badK L 0 = Z) := Lib.hid hZ
  have hZ2 : Z = if 200 < n then 2 else 0 := by rw [← hZ, badK_zero, HN.out]
  have HZ2 := Lib.hid hZ2
  clear hZ hZ2
  go_upto_if 38 with (fail)
  go_cut [9] (fun b wx => b = .int .i64 Z ∧ w1 = wx)
  case first =>
    by_cases hbig : 200 < n
    · obtain rfl : Z = 2 := by rw [HZ2.out, if_pos hbig]
      have t1 : decide (200 < n) = true := decide_eq_true hbig
      have t3 : decide ((200 : Int) < (n : Int)) = true := decide_eq_true (by omega)
      have t5 : (200 : Int) < (n : Int) := by omega
      go_wp2_with fail
      go_meet
      exact ⟨rfl, rfl⟩
    · obtain rfl : Z = 0 := by rw [HZ2.out, if_neg hbig]
      have t1 : decide (200 < n) = false := decide_eq_false hbig
      have t3 : decide ((200 : Int) < (n : Int)) = false := decide_eq_false (by omega)
      have t5 : ¬ ((200 : Int) < (n : Int)) := by omega
      go_wp2_with fail
      go_meet
      exact ⟨rfl, rfl⟩
  obtain ⟨rfl, hwx⟩ := hcut
  subst hwx
  go_wp2_with fail
  go_loopw [9, 41] (fun b i wr => ∃ (k : Nat) (z : Int), k ≤ n ∧ i = .int .i64 k ∧ b = .int .i64 z ∧ Hid (badK L k = z) ∧ Hid (Below w1.heap.size w1 wr)) (fun _ i _ => n - (intOf i).toNat)
  case atStart => exact ⟨0, Z, Nat.zero_le _, rfl, rfl, HZ, Lib.hid (Below.refl _ _)⟩
  case round =>
    obtain ⟨k, z, hk, rfl, rfl, HB, HW⟩ := hrel
    by_cases hlt : k < n
    case pos =>
      obtain ⟨l, hl⟩ : ∃ l, L[k]? = some l := ⟨_, List.getElem?_eq_getElem (by rw [HN.out]; exact hlt)⟩
      have HWW := Lib.hid (HB1.out.trans (HW.out.mono HB1.out.size))
      obtain ⟨b, off, cs, rfl, ⟨lt, rfl, hlv⟩, -, hcell⟩ := (HL.out.below lvI_mono HWW.out).get hl
      have c0 := hcell 0 lt rfl
      rw [Nat.mul_one, Nat.add_zero] at c0
      obtain ⟨lo, lc, rfl, -, -⟩ := hlv.shape
      obtain ⟨m, hm⟩ : ∃ m, l.length = m := ⟨_, rfl⟩
      rw [hm] at hlv c0
      obtain ⟨F, hF⟩ : ∃ F, labelF l = F := ⟨_, rfl⟩
      have hlf := lbfault_any _ l wr hlv
      rw [hF] at hlf
      have HLF := Lib.hid hlf
      have HST : Hid (badK L (k + 1) = if z = 0 then F else z) := Lib.hid (by rw [badK_step hl, HB.out, hF])
      have hk0 : (0 : Int) ≤ (k : Int) := by omega
      have hk1 : (k : Int) < (n : Int) := by omega
      clear hl hcell hlv hm hF hlf
      by_cases hz : z = 0
      · subst hz
        have t0 : ((0 : Int) == 0) = true := rfl
        have HST2 : Hid (badK L (k + 1) = F) := Lib.hid (by rw [HST.out, if_pos rfl])
        go_wp2_with fail
        refine HLF.out.mono ?_
        rintro e w3 ⟨rfl, hb3⟩
        have HW3 := Lib.hid (HW.out.trans (hb3.mono HW.out.size))
        clear hb3 c0
        go_wp2_with fail
        go_roundw
        case rel => exact ⟨k + 1, F, by omega, by go_num, rfl, HST2, HW3⟩
        case measure => simp [intOf]; omega
      · have t0 : (z == 0) = false := beq_eq_false_iff_ne.2 hz
        have HST2 : Hid (badK L (k + 1) = z) := Lib.hid (by rw [HST.out, if_neg hz])
        clear hz
        go_wp2_with fail
        go_roundw
        case rel => exact ⟨k + 1, z, by omega, by go_num, rfl, HST2, HW⟩
        case measure => simp [intOf]; omega
    have hkn : k = n := by omega
    have HFF : Hid (newF L = z) := Lib.hid (by rw [← badK_end, HN.out, ← hkn]; exact HB.out)
    have HW1 := Lib.hid (HB1.out.trans (HW.out.mono HB1.out.size))
    subst hkn
    clear HB HZ HZ2 hlt hk
    rcases HP.out with ⟨h1, rfl, h3⟩ | ⟨h1, rfl, rfl, ⟨xo, xn, xc, hAll⟩, hGrp⟩
    · have hz : z ≠ 0 := by rw [← HFF.out]; exact h1
      obtain rfl : z = ev := by rw [h3, HFF.out]
      have t1 : (z != 0) = true := by rw [bne_iff_ne]; exact hz
      have t2 : (z == z) = true := by simp
      clear h1 h3 hz
      go_wp2_with fail
      go_ret
      exact ⟨rfl, HW1.out⟩
    obtain rfl : z = 0 := by rw [← HFF.out]; exact h1
    have t1 : ((0 : Int) != 0) = false := rfl
    have t0 : ((0 : Int) == 0) = true := rfl
    have hk200 : ¬ 200 < k := fun h => by
      have : newF L = 2 := if_pos (by rw [HN.out]; exact h)
      rw [this] at h1
      exact absurd h1 (by decide)
    have hk30 : k ≤ 30 := by omega
    have hLL : ∀ l ∈ L, labelF l = 0 := fault_all (by
      have h2 := h1
      unfold newF at h2
      rw [if_neg (by rw [HN.out]; exact hk200)] at h2
      exact h2)
    have HLL := Lib.hid hLL
    obtain ⟨xb, hxb⟩ : ∃ b, w.heap.size + 1 = b := ⟨_, rfl⟩
    rw [hxb] at hAll ⊢
    have hxn : xn = k := by rw [← hAll.len]; exact HN.out
    subst hxn
    have HAW : Hid (∀ W, Below w1.heap.size w1 W → AllAt w.heap.size w.heap.size xb L xo xn xc W) := Lib.hid (fun W h => hAll.below h)
    have HGW : Hid (∀ W, Below w1.heap.size w1 W → GrpAt w.heap.size (prs 0 L) W) := Lib.hid (fun W h => hGrp.below h)
    obtain ⟨w2, rfl⟩ : ∃ x, x = wr := ⟨_, rfl⟩
    obtain ⟨n, hkn2⟩ : ∃ n, n = xn := ⟨_, rfl⟩
    subst hkn2
    clear h1 hAll hGrp hLL hk200 hearly hxb HP
    go_wp2_with fail
    go_loopw [12, 67] (fun u i wr => ∃ k : Nat, k ≤ n ∧ i = .int .i64 k ∧ Hid (OwS w2.heap.size wr u (vls nm (L.take k).flatten)) ∧ Hid (Below w2.heap.size w2 wr)) (fun _ i _ => n - (intOf i).toNat)
    case atStart => exact ⟨0, Nat.zero_le _, rfl, Lib.hid (World.ownsRow_nil _ _ _ _), Lib.hid (Below.refl _ _)⟩
    case round =>
      obtain ⟨k, hk, rfl, HO, HV⟩ := hrel
      have HVW := Lib.hid (HW1.out.trans (HV.out.mono HW1.out.size))
      obtain ⟨uo, uc, hu, -⟩ := own_shape HO.out
      subst hu
      obtain ⟨un, hun⟩ : ∃ un, (vls nm (L.take k).flatten).length = un := ⟨_, rfl⟩
      rw [hun] at HO ⊢
      by_cases hlt : k < n
      case pos =>
        obtain ⟨l, hl⟩ : ∃ l, L[k]? = some l := ⟨_, List.getElem?_eq_getElem (by rw [HN.out]; exact hlt)⟩
        obtain ⟨b, off, cs, rfl, ⟨lt, rfl, hlv0⟩, -, hcell⟩ := HL.out.get hl
        have c0w := hcell 0 lt rfl
        rw [Nat.mul_one, Nat.add_zero] at c0w
        have c0 := (HVW.out.cell (p := ⟨b, off + k, none⟩) (cell_lt c0w)).trans c0w
        obtain ⟨lo, lc, rfl, -, -⟩ := hlv0.shape
        obtain ⟨m, hm⟩ : ∃ m, l.length = m := ⟨_, rfl⟩
        rw [hm] at hlv0 c0
        have HLV := Lib.hid hlv0
        have HM := Lib.hid hm
        have hm10 : m ≤ 10 := by rw [← hm]; exact label_len (HLL.out l (List.mem_of_getElem? hl))
        have hA10 : (L.take k).flatten.length ≤ 300 := by
          have h1 := flat10 (L := L.take k) (fun x hx => label_len (HLL.out x (List.mem_of_mem_take hx)))
          rw [List.length_take, HN.out] at h1
          omega
        have HL1 := Lib.hid hl
        have HA10 := Lib.hid hA10
        have HO0 : Hid (OwS w2.heap.size wr (.slice uo un uc) (vls nm ((L.take k).flatten ++ l.take 0))) := Lib.hid (by
          rw [List.take_zero, List.append_nil]
          exact HO.out)
        have hk0 : (0 : Int) ≤ (k : Int) := by omega
        have hk1 : (k : Int) < (n : Int) := by omega
        clear hcell c0w hlv0 hm hl hun hA10 HO
        go_wp2_with fail
        obtain ⟨wo, hwo⟩ : ∃ x, x = wr := ⟨_, rfl⟩
        rw [← hwo] at HV HVW HO0 ⊢
        clear hwo c0
        go_loopw [12, 73] (fun u i wr => ∃ j : Nat, j ≤ m ∧ i = .int .i64 j ∧ Hid (OwS w2.heap.size wr u (vls nm ((L.take k).flatten ++ l.take j))) ∧ Hid (Below w2.heap.size w2 wr)) (fun _ i _ => m - (intOf i).toNat)
        case atStart => exact ⟨0, Nat.zero_le _, rfl, HO0, HV⟩
        case round =>
          obtain ⟨j, hj, rfl, HO, HU⟩ := hrel
          have HUW := Lib.hid (HW1.out.trans (HU.out.mono HW1.out.size))
          by_cases hlt2 : j < m
          case neg =>
            obtain rfl : j = m := by omega
            have HO2 : Hid (OwS w2.heap.size wr u12 (vls nm (L.take (k + 1)).flatten)) := Lib.hid (by
              rw [flat_step HL1.out]
              have h1 := HO.out
              rw [List.take_of_length_le (l := l) (by rw [HM.out]; exact Nat.le_refl _)] at h1
              exact h1)
            go_wp2_with fail
            go_roundw
            case rel => exact ⟨k + 1, by omega, by go_num, HO2, HU⟩
            case measure => simp [intOf]; omega
          obtain ⟨y, hy⟩ : ∃ y, l[j]? = some y := ⟨_, List.getElem?_eq_getElem (by rw [HM.out]; exact hlt2)⟩
          obtain ⟨lb, loff, lcs, hlo, ⟨rfl, hy1, hy2⟩, -, hlcell⟩ := (HLV.out.below lbR_mono HUW.out).get hy
          subst hlo
          have e0 := hlcell 0 _ rfl
          have e1 := hlcell 1 _ rfl
          rw [Nat.add_zero] at e0
          obtain ⟨S1, hS1⟩ : ∃ A, A = mkS y.nm := ⟨_, rfl⟩
          obtain ⟨S2, hS2⟩ : ∃ A, A = mkS y.vl := ⟨_, rfl⟩
          rw [← hS1] at e0
          rw [← hS2] at e1
          have HS1 := Lib.hid hS1
          have HS2 := Lib.hid hS2
          obtain ⟨V, hV⟩ : ∃ V, vls nm ((L.take k).flatten ++ l.take j) = V := ⟨_, rfl⟩
          have HST : Hid (vls nm ((L.take k).flatten ++ l.take (j + 1)) = if y.nm = nm ∧ y.vl ∉ V then V ++ [y.vl] else V) := Lib.hid (by rw [part_step hy, vls_snoc, hV]; rfl)
          have hV9 : V.length ≤ 400 := by
            have h1 := vls_len nm ((L.take k).flatten ++ l.take j)
            rw [hV, List.length_append, List.length_take, HM.out] at h1
            have := HA10.out
            omega
          have hO := HO.out
          rw [hV] at hO
          obtain ⟨uo, uc, hu, -⟩ := own_shape hO
          subst hu
          obtain ⟨un, hun⟩ : ∃ un, V.length = un := ⟨_, rfl⟩
          unfold OwS at hO
          rw [hun] at hO hV9 ⊢
          have HUN := Lib.hid hun
          have HOO := Lib.hid hO
          have hj0 : (0 : Int) ≤ (j : Int) := by omega
          have hj1 : (j : Int) < (m : Int) := by omega
          clear hlcell hy1 hy2 hS1 hS2 hy hV hO hun HO
          go_upto_region 24 with (fail)
          refine wp_abs (fun wx => wx.heap[wr.heap.size]? = some (.cells #[.string S1, .string S2] 67 (0, 0)) ∧ wx.ownsRow w2.heap.size 9 1 (.slice uo un uc) un (V.map sV) ∧ Below w2.heap.size w2 wx) ⟨heap_alloc_new wr _, HOO.out.alloc _, HU.out.alloc HU.out.size _⟩ ?_
          obtain ⟨bl, hbl⟩ : ∃ b, wr.heap.size = b := ⟨_, rfl⟩
          rw [hbl]
          rintro wb ⟨hbox, hOb, hBb⟩
          have HOB := Lib.hid hOb
          have HBB := Lib.hid hBb
          obtain ⟨⟨b0, b1⟩, -⟩ := bx2 hbox
          clear hbl hbox hOb hBb e0 e1 HOO HU HUW
          by_cases hnm : y.nm = nm
          case neg =>
            have t2 : (S1.toList == Sn.toList) = false := by rw [HS1.out, HSN.out, mkS_list, mkS_list]; exact beq_eq_false_iff_ne.2 hnm
            have HO2 : Hid (OwS w2.heap.size wb (.slice uo un uc) (vls nm ((L.take k).flatten ++ l.take (j + 1)))) := Lib.hid (by
              rw [HST.out, if_neg (fun h => hnm h.1)]
              unfold OwS
              rw [HUN.out]
              exact HOB.out)
            clear hnm
            go_wp2_with fail
            go_roundw
            case rel => exact ⟨j + 1, by omega, by go_num, HO2, HBB⟩
            case measure => simp [intOf]; omega
          have t2 : (S1.toList == Sn.toList) = true := by rw [HS1.out, HSN.out, hnm]; simp
          obtain ⟨D, hD⟩ : ∃ D, decide (y.vl ∈ V) = D := ⟨_, rfl⟩
          have hct := containsS_any (.slice uo un uc) V y.vl wb D (by unfold Ss; rw [HUN.out]; exact own_sl HOB.out) hD
          rw [← HS2.out] at hct
          have HCT := Lib.hid hct
          have HD := Lib.hid hD
          have HNM := Lib.hid hnm
          clear hct hD hnm
          go_wp2_with fail
          refine HCT.out.mono ?_
          rintro e w5 ⟨rfl, hw5⟩
          have hw5 := hw5.symm
          subst hw5
          cases D with
          | true =>
            have HO2 : Hid (OwS w2.heap.size wb (.slice uo un uc) (vls nm ((L.take k).flatten ++ l.take (j + 1)))) := Lib.hid (by
              rw [HST.out, if_neg (fun h => h.2 (of_decide_eq_true HD.out))]
              unfold OwS
              rw [HUN.out]
              exact HOB.out)
            go_wp2_with fail
            go_roundw
            case rel => exact ⟨j + 1, by omega, by go_num, HO2, HBB⟩
            case measure => simp [intOf]; omega
          | false =>
            have HEQ : Hid (vls nm ((L.take k).flatten ++ l.take (j + 1)) = V ++ [y.vl]) := Lib.hid (by rw [HST.out, if_pos ⟨HNM.out, of_decide_eq_false HD.out⟩])
            have hob := HOB.out
            have hbb := HBB.out
            go_wp2_with (at_builtin; refine append1 [.string S2] elStr rfl _ _ rfl hob hbb hbb.size rfl rfl rfl (by intro u hu; obtain rfl := List.mem_singleton.1 hu; rfl) ?c4 ?c5 ?_)
            case c4 => omega
            case c5 => omega
            intro v7 w7 hown7 hbel7 _
            have HO2 : Hid (OwS w2.heap.size w7 v7 (vls nm ((L.take k).flatten ++ l.take (j + 1)))) := Lib.hid (by
              rw [HEQ.out]
              unfold OwS
              rw [List.length_append, List.length_singleton, HUN.out, List.map_append]
              have h1 := hown7
              rw [HS2.out] at h1
              exact h1)
            have HB7 := Lib.hid hbel7
            clear hown7 hbel7 hob hbb
            go_wp2_with fail
            go_roundw
            case rel => exact ⟨j + 1, by omega, by go_num, HO2, HB7⟩
            case measure => simp [intOf]; omega
      have hkn : k = n := by omega
      have hVF : (L.take k).flatten = L.flatten := by rw [List.take_of_length_le (by rw [HN.out, hkn]; exact Nat.le_refl _)]
      have hlk : ¬ ((k : Int) < (n : Int)) := by omega
      clear hkn
      rw [hVF] at HO hun
      have hun9 : un ≤ 300 := by
        have h1 := vls_len nm L.flatten
        have h2 := flat10 (L := L) (fun x hx => label_len (HLL.out x hx))
        rw [HN.out] at h2
        omega
      have hO := HO.out
      unfold OwS at hO
      rw [hun] at hO
      have HOO := Lib.hid hO
      have HUN := Lib.hid hun
      have hu62 : un < 4611686018427387904 := by omega
      clear hVF hO hun HO
      go_wp2_with fail
      refine (sortS_own _ un w2.heap.size (vls nm L.flatten) _ HOO.out hu62).mono ?_
      rintro e w4 ⟨rfl, hown4, hg4⟩
      have HW4 : Hid (Below w1.heap.size w1 w4) := Lib.hid (HW.out.trans ((HV.out.grown hg4 HV.out.size (fun j hj => (HOO.out.lt j hj).1)).mono HW.out.size))
      have HS4 : Hid (Ss w4 (.slice uo un uc) (srtS (vls nm L.flatten))) := Lib.hid (by
        unfold Ss
        have e1 : (srtS (vls nm L.flatten)).length = un := by unfold srtS; rw [List.length_mergeSort]; exact HUN.out
        rw [e1]
        exact own_sl hown4)
      clear hown4 hg4
      rw [HSN.out]
      go_wp2_with fail
      have hplen : (prs 0 L).length ≤ 1000000 := by
        have h1 := prs_len L 0 (fun x hx => label_len (HLL.out x hx))
        rw [HN.out] at h1
        omega
      refine (values_any nm _ (HAW.out _ HW4.out) (HGW.out _ HW4.out) hplen).mono ?_
      rintro e w5 ⟨ys, v5, rfl, ⟨hnd, hmem⟩, hfit, hown5, hb5⟩
      have HW5 := Lib.hid (HW4.out.trans (hb5.mono HW4.out.size))
      have hsame := vals_same (nm := nm) HLL.out hnd hfit hmem
      have HS5 : Hid (Ss w5 v5 (srtS (vls nm L.flatten))) := Lib.hid (by
        rw [← hsame]
        unfold Ss
        have e1 : (srtS (valsOf nm ys)).length = (valsOf nm ys).length := by unfold srtS; rw [List.length_mergeSort]
        rw [e1]
        exact own_sl hown5)
      have HS45 := Lib.hid (HS4.out.below hb5)
      obtain ⟨o5, c5, hv5, -⟩ := HS5.out.shape
      subst hv5
      clear hnd hmem hfit hown5 hb5 hsame hplen
      go_wp2_with fail
      refine (equalS_any _ _ _ _ HS5.out HS45.out).mono ?_
      rintro e w6 ⟨rfl, nq, hw6⟩
      have HW6 : Hid (Below w1.heap.size w1 w6) := Lib.hid (by rw [hw6]; exact below_drewN HW5.out _)
      clear hw6
      go_wp2_with fail
      have hmt6 := HMT.out.below (HB1.out.trans (HW6.out.mono HB1.out.size))
      have hms6 := HMS.out.below mtR_mono (HB1.out.trans (HW6.out.mono HB1.out.size))
      refine (find_any _ M _ (HAW.out _ HW6.out) (HGW.out _ HW6.out) hmt6 HLL.out (by omega) hms6).mono ?_
      rintro e w7 ⟨hb7, hfd⟩
      have HW7 := Lib.hid (HW6.out.trans (hb7.mono HW6.out.size))
      have HMS7 := Lib.hid (hms6.below mtR_mono hb7)
      clear hmt6 hms6 hb7
      obtain ⟨F, hF⟩ : ∃ F, matchF M = F := ⟨_, rfl⟩
      have hmf := mtfault_any _ M w7 HMS7.out
      rw [hF] at hmf hfd
      have HMF := Lib.hid hmf
      have HFF2 := Lib.hid hF
      clear hmf hF
      rcases hfd with ⟨hz, rfl⟩ | ⟨hz, v7, rfl, hfnd⟩
      · have t5 : (F != 0) = true := by rw [bne_iff_ne]; exact hz
        have t6 : (F == F) = true := by simp
        clear hz
        go_wp2_with fail
        refine HMF.out.mono ?_
        rintro e w8 ⟨rfl, hb8⟩
        have HW8 := Lib.hid (HB1.out.trans ((HW7.out.trans (hb8.mono HW7.out.size)).mono HB1.out.size))
        clear hb8
        go_wp2_with fail
        go_ret
        exact ⟨rfl, HW8.out⟩
      subst hz
      obtain ⟨o7, c7, hv7, -⟩ := hfnd.shape
      subst hv7
      have HFND := Lib.hid hfnd
      clear hfnd
      go_wp2_with fail
      refine HMF.out.mono ?_
      rintro e w8 ⟨rfl, hb8⟩
      have HW8 := Lib.hid (HW7.out.trans (hb8.mono HW7.out.size))
      have HFN8 := Lib.hid (HFND.out.below hb8)
      clear hb8 HMF
      go_wp2_with fail
      go_loopw [20, 123] (fun u i wr => ∃ k : Nat, k ≤ n ∧ i = .int .i64 k ∧ Hid (OwI w8.heap.size wr u (wantK L M k)) ∧ Hid (Below w8.heap.size w8 wr)) (fun _ i _ => n - (intOf i).toNat)
      case atStart => exact ⟨0, Nat.zero_le _, rfl, Lib.hid (World.ownsRow_nil _ _ _ _), Lib.hid (Below.refl _ _)⟩
      case round =>
        obtain ⟨k, hk, rfl, HO, HV2⟩ := hrel
        have HVW := Lib.hid (HB1.out.trans ((HW8.out.trans (HV2.out.mono HW8.out.size)).mono HB1.out.size))
        obtain ⟨uo2, uc2, hu2, -⟩ := own_shape HO.out
        subst hu2
        obtain ⟨wn, hwn⟩ : ∃ wn, (wantK L M k).length = wn := ⟨_, rfl⟩
        have hO2 := HO.out
        unfold OwI at hO2
        rw [hwn] at hO2 ⊢
        have hwk := wantK_len L M k
        rw [hwn] at hwk
        have HWN := Lib.hid hwn
        have HOI := Lib.hid hO2
        clear hO2 hwn HO
        by_cases hlt : k < n
        case neg =>
          obtain rfl : k = n := by omega
          have hwe : wantK L M k = outF L M := by
            have h1 := wantK_end L M
            rw [HN.out] at h1
            exact h1
          have HNs1 : Hid (Ns wr (.slice uo2 wn uc2) (outF L M)) := Lib.hid (by
            unfold Ns
            rw [← hwe, HWN.out]
            exact own_sl HOI.out)
          have HNs2 : Hid (Ns wr (.slice o7 (outF L M).length c7) (outF L M)) := Lib.hid (HFN8.out.below HV2.out)
          have hln : (outF L M).length = wn := by rw [← hwe]; exact HWN.out
          rw [hln] at HNs2 ⊢
          clear hln hwe
          go_wp2_with fail
          refine (equalI_any _ _ _ _ HNs2.out HNs1.out).mono ?_
          rintro e w10 ⟨rfl, nq2, hw10⟩
          have HW10 : Hid (Below w.heap.size w w10) := Lib.hid (by rw [hw10]; exact below_drewN HVW.out _)
          clear hw10
          go_wp2_with fail
          go_ret
          exact ⟨rfl, HW10.out⟩
        obtain ⟨l, hl⟩ : ∃ l, L[k]? = some l := ⟨_, List.getElem?_eq_getElem (by rw [HN.out]; exact hlt)⟩
        obtain ⟨b, off, cs, rfl, ⟨lt, rfl, hlv0⟩, -, hcell⟩ := HL.out.get hl
        have c0w := hcell 0 lt rfl
        rw [Nat.mul_one, Nat.add_zero] at c0w
        have c0 := (HVW.out.cell (p := ⟨b, off + k, none⟩) (cell_lt c0w)).trans c0w
        have hlv := hlv0.below lbR_mono HVW.out
        obtain ⟨lo, lc, rfl, -, -⟩ := hlv0.shape
        obtain ⟨m, hm⟩ : ∃ m, l.length = m := ⟨_, rfl⟩
        rw [hm] at hlv c0
        have hfa := fitsall_any _ _ l M wr hlv (HMS.out.below mtR_mono HVW.out) (HLL.out l (List.mem_of_getElem? hl)) HFF2.out
        obtain ⟨D, hD⟩ : ∃ D, fitsB l M = D := ⟨_, rfl⟩
        rw [hD] at hfa
        have HFA := Lib.hid hfa
        have HST : Hid (wantK L M (k + 1) = if D = true then wantK L M k ++ [(k : Int)] else wantK L M k) := Lib.hid (by rw [wantK_step L M hl, hD])
        have hk0 : (0 : Int) ≤ (k : Int) := by omega
        have hk1 : (k : Int) < (n : Int) := by omega
        clear hcell c0w hlv0 hlv hm hl hD hfa
        go_wp2_with fail
        refine HFA.out.mono ?_
        rintro e w9 ⟨rfl, hb9⟩
        have HV9 := Lib.hid (HV2.out.trans (hb9.mono HV2.out.size))
        have hO9 := own_below HOI.out hb9
        clear hb9 c0
        cases D with
        | true =>
          have hv9 := HV9.out
          go_wp2_with (at_builtin; refine append1 [.int .i64 (k : Int)] SortI.elInt rfl _ _ rfl hO9 hv9 hv9.size rfl rfl rfl (by intro u hu; obtain rfl := List.mem_singleton.1 hu; rfl) ?c4 ?c5 ?_)
          case c4 => omega
          case c5 => omega
          intro v11 w11 hown11 hbel11 _
          have HO2 : Hid (OwI w8.heap.size w11 v11 (wantK L M (k + 1))) := Lib.hid (by
            have h1 : wantK L M (k + 1) = wantK L M k ++ [(k : Int)] := by have h2 := HST.out; simpa using h2
            rw [h1]
            unfold OwI
            rw [List.length_append, List.length_singleton, HWN.out, List.map_append]
            exact hown11)
          have HB11 := Lib.hid hbel11
          clear hown11 hbel11 hO9 hv9
          go_wp2_with fail
          go_roundw
          case rel => exact ⟨k + 1, by omega, by go_num, HO2, HB11⟩
          case measure => simp [intOf]; omega
        | false =>
          have HO2 : Hid (OwI w8.heap.size w9 (.slice uo2 wn uc2) (wantK L M (k + 1))) := Lib.hid (by
            have h1 : wantK L M (k + 1) = wantK L M k := by have h2 := HST.out; simpa using h2
            rw [h1]
            unfold OwI
            rw [HWN.out]
            exact hO9)
          clear hO9
          go_wp2_with fail
          go_roundw
          case rel => exact ⟨k + 1, by omega, by go_num, HO2, HV9⟩
          case measure => simp [intOf]; omega
end Go.Proofs.Ytlfhcjhbnakamaa.IndexTells
/-
  Labels, lists of labels and matches that came in, under the bound on the weights.
-/
namespace Go.Proofs.Ytlfhcjhbnakamaa.Iy
open Go.RowKit Go.Gh Go.WideShapes Go.ChangeShapes Go.ChangeAt Go.Deep Go.Joins Go.Proofs.Ytlfhcjhbnakamaa.Lab
set_option linter.unusedVariables false
set_option linter.unusedSimpArgs false
set_option maxRecDepth 100000
theorem cellsStr : Try.prog.cellsOf 9 = 1 := by kernel_rfl
theorem cellsInt : Try.prog.cellsOf 3 = 1 := by kernel_rfl
theorem cellsMt : Try.prog.cellsOf 102 = 3 := by kernel_rfl
theorem mem_weightsAll {H : Type} {P : Program} {e : TypeId} {d : DataW H} {n : Nat} : ∀ {l : List (DataW H)}, d ∈ l → n ∈ d.weights P e → n ∈ DataW.weightsAll P e l
  | [], h, _ => by simp at h
  | x :: r, h, hn => by
    simp only [DataW.weightsAll]
    rcases List.mem_cons.1 h with rfl | h
    · exact List.mem_append_left _ hn
    · exact List.mem_append_right _ (mem_weightsAll h hn)
section
variable {α : Type} {H : Type} {enc : TypeId × Value → H} {P : Program} {W : World} {base : Nat} {spare : Nat → Bool} {held : Bool} {R : World → α → List Value → Prop}
/-- A slice that came in, element by element, under the bound on the weights. -/
theorem sp_ofZ {t e : TypeId} {k fuel : Nat} {v : Value} {x : DataW H × List MemPlace} (inh : Inhabited α) (ht : P.underlying t = some (.slice e)) (hk : P.cellsOf e = k) (hpos : 0 < k)
    (hel : ∀ fuel cs x, DataW.trod enc P W base spare held fuel e cs = some x → cs.length = k → (∀ n ∈ x.1.weights P e, n ≤ reachBytes) → ∃ a, R W a cs)
    (hs : ∀ n ∈ x.1.weights P t, n ≤ reachBytes)
    (h : DataW.trod enc P W base spare held fuel t [v] = some x) : ∃ L : List α, Sp R k W v L ∧ L.length * P.bytesOf e ≤ reachBytes := by
  rcases open_slice ht h with ⟨hcs, _⟩ | ⟨a, len, cap, m, n, D, Pl, hcs, hb, hl, hm, hmm, hx, hi'⟩
  · obtain rfl : v = .slice none 0 0 := by simpa using hcs
    exact ⟨[], Sp.nil, by simp⟩
  · obtain rfl : v = .slice (some a) len cap := by simpa using hcs
    have hlm : len ≤ m := by rw [hmm]; split <;> omega
    have each : ∀ i, i < len → ∃ p : α × List Value, p.2.length = k ∧ R W p.1 p.2 ∧ ∀ j u, p.2[j]? = some u → W.cell? (a.add (i * k + j)) = some u := by
      intro i hlt
      obtain ⟨cs', hc, ht'⟩ := hi' i (by omega)
      rw [hk] at hc
      obtain ⟨_, hcl, hat⟩ := World.cells?_some hc
      obtain ⟨y, hy⟩ := hel _ _ _ ht' hcl (fun n hn => hs n (by
        rw [hx]
        simp only [DataW.weights, ht]
        exact List.mem_cons_of_mem _ (List.mem_append_left _ (mem_weightsAll (List.mem_map.2 ⟨i, by simpa using hlt, rfl⟩) hn))))
      refine ⟨(y, cs'), hcl, hy, fun j u hu => ?_⟩
      have hj : j < k := by
        have h9 : j < cs'.length := (List.getElem?_eq_some_iff.1 hu).1
        have h10 : cs'.length = k := hcl
        omega
      have h2 := hat j hj
      rw [add_add] at h2
      rw [h2]
      exact hu
    haveI : Inhabited (α × List Value) := ⟨(inh.default, [])⟩
    obtain ⟨Q, hQ⟩ := choose_lt each
    have hL : ((List.range len).map Q).length = len := by simp
    have hPK : PK k ((List.range len).map Q) := by
      intro p hp
      obtain ⟨i, hi, rfl⟩ := List.mem_map.1 hp
      exact (hQ i (by simpa using hi)).1
    refine ⟨((List.range len).map Q).map (·.1), ⟨(List.range len).map Q, rfl, hPK, ?_, some a, cap, ?_, ?_, hm, fun h => by simp at h, ?_, fun hn => ?_⟩, ?_⟩
    · intro p hp
      obtain ⟨i, hi, rfl⟩ := List.mem_map.1 hp
      exact (hQ i (by simpa using hi)).2.1
    · rw [List.length_map, hL]
    · rw [List.length_map, hL]; exact hl
    · rw [pc_len hPK, List.length_map, List.length_map, List.length_map]
    · rw [List.length_map, hL] at hn
      obtain ⟨u0, hu0⟩ : ∃ u, (Q 0).2[0]? = some u := ⟨_, List.getElem?_eq_getElem (by rw [(hQ 0 hn).1]; exact hpos)⟩
      have h0 := (hQ 0 hn).2.2 0 u0 hu0
      obtain ⟨b, off, spot⟩ := a
      have hs := World.cell?_spot h0
      simp [Addr.add] at hs
      subst hs
      refine ⟨b, off, rfl, fun i u hu => ?_⟩
      have hidx : i < len * k := by
        rcases Nat.lt_or_ge i (len * k) with h' | h'
        · exact h'
        · rw [List.getElem?_eq_none (by rw [pc_len hPK, hL]; exact h')] at hu; simp at hu
      have hq : i / k < len := Nat.div_lt_of_lt_mul (by rw [Nat.mul_comm]; exact hidx)
      have hr : i % k < k := Nat.mod_lt _ hpos
      have hdm : i / k * k + i % k = i := by rw [Nat.mul_comm]; exact Nat.div_add_mod i k
      have hp : ((List.range len).map Q)[i / k]? = some (Q (i / k)) := by simp [hq]
      rw [← hdm, pc_get hPK hp hr] at hu
      have := (hQ (i / k) hq).2.2 (i % k) u hu
      rw [addr_add, hdm] at this
      exact this
    · rw [List.length_map, hL]
      have := hs ((((List.range len).map D).length + ((List.range (m - len)).map fun j => D (len + j)).length) * P.bytesOf e) (by rw [hx]; simp [DataW.weights, ht])
      refine Nat.le_trans (Nat.mul_le_mul_right _ ?_) this
      simp
end
section
variable {H : Type} {enc : TypeId × Value → H} {W : World} {base b0 : Nat} {r : Reach} {spare : Nat → Bool} {held : Bool} {v : Value} {d : DataW H} {ps : List MemPlace}
theorem str_lenZ {fuel : Nat} {c : Value} {x : DataW H × List MemPlace} (h : DataW.trod enc Try.prog W base spare held fuel 9 [c] = some x) (hs : ∀ n ∈ x.1.weights Try.prog 9, n ≤ reachBytes) : ∃ l : By, c = .string (mkS l) ∧ l.length ≤ 140737488355328 := by
  obtain ⟨s, e, rfl, _⟩ := DataW.trod_string Try.underlying9 h
  have := hs s.data.toList.length (by simp [DataW.weights])
  have h1 : reachBytes ≤ 140737488355328 := by decide
  exact ⟨s.data.toList, by rw [← of_mkS]; simpa using e, by omega⟩
theorem mem_struct {t : TypeId} {fs : Array Field} {ys : List (DataW H × List MemPlace)} {y : DataW H × List MemPlace} {i n : Nat} {e : TypeId} (ht : Try.prog.underlying t = some (.struct fs)) (hi : (fs.toList.map (·.type))[i]? = some e) (hy : ys[i]? = some y) (hn : n ∈ y.1.weights Try.prog e) : n ∈ (DataW.agg (ys.map (·.1))).weights Try.prog t := by
  simp only [DataW.weights, ht]
  exact DataW.weights_mem_each hi (by rw [List.getElem?_map, hy]; rfl) n hn
theorem trod_lbZ {fuel : Nat} {c0 c1 : Value} {x : DataW H × List MemPlace} (h : DataW.trod enc Try.prog W base spare held fuel 67 [c0, c1] = some x) (hs : ∀ n ∈ x.1.weights Try.prog 67, n ≤ reachBytes) : ∃ y : Lb, LbR W y [c0, c1] := by
  obtain ⟨ys, n2, _, rfl, _, hyl, hfy⟩ := DataW.trod_struct Try.underlying67 h
  have hys : ys.length = 2 := hyl
  have g0 : DataW.trod enc Try.prog W base spare held n2 9 (([c0, c1].drop 0).take (Try.prog.cellsOf 9)) = ys[0]? := hfy 0 _ rfl
  have g1 : DataW.trod enc Try.prog W base spare held n2 9 (([c0, c1].drop 1).take (Try.prog.cellsOf 9)) = ys[1]? := hfy 1 _ rfl
  rw [cellsStr] at g0 g1
  simp only [List.drop, List.take] at g0 g1
  have y0 := List.getElem?_eq_getElem (l := ys) (i := 0) (by rw [hys]; decide)
  have y1 := List.getElem?_eq_getElem (l := ys) (i := 1) (by rw [hys]; decide)
  rw [y0] at g0
  rw [y1] at g1
  obtain ⟨l0, rfl, h0⟩ := str_lenZ g0 (fun n hn => hs n (mem_struct Try.underlying67 rfl y0 hn))
  obtain ⟨l1, rfl, h1⟩ := str_lenZ g1 (fun n hn => hs n (mem_struct Try.underlying67 rfl y1 hn))
  exact ⟨⟨l0, l1⟩, rfl, h0, h1⟩
theorem trod_mtZ {fuel : Nat} {c0 c1 c2 : Value} {x : DataW H × List MemPlace} (h : DataW.trod enc Try.prog W base spare held fuel 102 [c0, c1, c2] = some x) (hs : ∀ n ∈ x.1.weights Try.prog 102, n ≤ reachBytes) : ∃ y : Mt, MtR W y [c0, c1, c2] := by
  obtain ⟨ys, n2, _, rfl, _, hyl, hfy⟩ := DataW.trod_struct Try.underlying102 h
  have hys : ys.length = 3 := hyl
  have g0 : DataW.trod enc Try.prog W base spare held n2 3 (([c0, c1, c2].drop 0).take (Try.prog.cellsOf 3)) = ys[0]? := hfy 0 _ rfl
  have g1 : DataW.trod enc Try.prog W base spare held n2 9 (([c0, c1, c2].drop 1).take (Try.prog.cellsOf 9)) = ys[1]? := hfy 1 _ rfl
  have g2 : DataW.trod enc Try.prog W base spare held n2 9 (([c0, c1, c2].drop 2).take (Try.prog.cellsOf 9)) = ys[2]? := hfy 2 _ rfl
  rw [cellsInt] at g0
  rw [cellsStr] at g1 g2
  simp only [List.drop, List.take] at g0 g1 g2
  have y0 := List.getElem?_eq_getElem (l := ys) (i := 0) (by rw [hys]; decide)
  have y1 := List.getElem?_eq_getElem (l := ys) (i := 1) (by rw [hys]; decide)
  have y2 := List.getElem?_eq_getElem (l := ys) (i := 2) (by rw [hys]; decide)
  rw [y0] at g0
  rw [y1] at g1
  rw [y2] at g2
  obtain ⟨z, e0, _, w0⟩ := DataW.trod_int Try.underlying3 g0
  have e0' : c0 = .int .i64 z := by simpa using e0
  obtain ⟨l1, rfl, h1⟩ := str_lenZ g1 (fun n hn => hs n (mem_struct Try.underlying102 rfl y1 hn))
  obtain ⟨l2, rfl, h2⟩ := str_lenZ g2 (fun n hn => hs n (mem_struct Try.underlying102 rfl y2 hn))
  have hw := wf_i64 w0
  exact ⟨⟨z, l1, l2⟩, by rw [e0'], h1, h2, hw.1, hw.2⟩
theorem cellsLbs : Try.prog.cellsOf 63 = 1 := by kernel_rfl
theorem trod_lvZ {fuel : Nat} {c0 : Value} {x : DataW H × List MemPlace} (h : DataW.trod enc Try.prog W base spare held fuel 63 [c0] = some x) (hs : ∀ n ∈ x.1.weights Try.prog 63, n ≤ reachBytes) : ∃ l : List Lb, LvI W l [c0] := by
  obtain ⟨L, hL, _⟩ := sp_ofZ (R := LbR) ⟨⟨[], []⟩⟩ Try.underlying63 cellsLb (by decide) (fun fuel cs x h1 h2 h3 => by
    match cs, h2 with
    | [d0, d1], _ => exact trod_lbZ h1 h3) hs h
  exact ⟨L, c0, rfl, hL⟩
theorem isLls_of (hv : Value.okWide Try.prog W r b0 58 v) (hd : DataW.Trod enc Try.prog W base spare held 58 v d ps) (hs : ∀ n ∈ d.weights Try.prog 58, n ≤ reachBytes) : IndexTells.IsLls W v := by
  obtain ⟨a0, len, cap, rfl⟩ := okWide_slice Try.underlying58 hv
  obtain ⟨fuel, hf⟩ := hd
  have hf' : DataW.trod enc Try.prog W base spare held fuel 58 [.slice a0 len cap] = some (d, ps) := by simpa [Value.cells] using hf
  obtain ⟨L, hL, hr⟩ := sp_ofZ (R := LvI) ⟨[]⟩ Try.underlying58 cellsLbs (by decide) (fun fuel cs x h1 h2 h3 => by
    match cs, h2 with
    | [d0], _ => exact trod_lvZ h1 h3) hs hf'
  exact ⟨L, hL, reach_le hr (of_decide_eq_true (by kernel_rfl))⟩
theorem isMtsI_of (hv : Value.okWide Try.prog W r b0 59 v) (hd : DataW.Trod enc Try.prog W base spare held 59 v d ps) (hs : ∀ n ∈ d.weights Try.prog 59, n ≤ reachBytes) : IndexTells.IsMtsI W v := by
  obtain ⟨a0, len, cap, rfl⟩ := okWide_slice Try.underlying59 hv
  obtain ⟨fuel, hf⟩ := hd
  have hf' : DataW.trod enc Try.prog W base spare held fuel 59 [.slice a0 len cap] = some (d, ps) := by simpa [Value.cells] using hf
  obtain ⟨L, hL, _⟩ := sp_ofZ (R := MtR) ⟨⟨0, [], []⟩⟩ Try.underlying59 cellsMt (by decide) (fun fuel cs x h1 h2 h3 => by
    match cs, h2 with
    | [d0, d1, d2], _ => exact trod_mtZ h1 h3) hs hf'
  exact ⟨L, hL⟩
end
end Go.Proofs.Ytlfhcjhbnakamaa.Iy
/-
  The library's variable holds some number, in a world that is as the start left it.
-/
namespace Go.Proofs.Ytlfhcjhbnakamaa.Lab
open Go.RowKit Go.Gh
set_option maxRecDepth 100000
theorem mtab_of_shaped {W : World} (h : W.ShapedOpen Try.prog) : MTab W :=
  Go.Proofs.cell_of_shapedOpen_int (zero := #[.int .i64 0]) (t := 3) h (of_decide_eq_true (by kernel_rfl)) (by kernel_rfl) rfl (by kernel_rfl) (by kernel_rfl) Try.underlying3
end Go.Proofs.Ytlfhcjhbnakamaa.Lab
/-
  'gaugehouselaw.IndexTells' returns true, whatever is handed in, and its arguments read behind the call as they read before. No condition beside those of the given row.
-/
namespace Go.Proofs.Ytlfhcjhbnakamaa.IndexTells
open Go.RowKit Go.ChangeShapes Go.WideShapes Go.ChangeAt Go.Gh Go.Proofs.Ytlfhcjhbnakamaa.Iy Go.Proofs.Ytlfhcjhbnakamaa.Lab
set_option linter.unusedVariables false
theorem own : ownKnob Try.prog.godebug = none := by kernel_rfl
theorem laidOut : laidOutB Try.prog = true := by kernel_rfl
set_option maxRecDepth 100000 in
theorem lifted (os : Os) (started : os.Started) (H : Type) (enc : TypeId × Value → H) :
    ReturnsInHanded {} Try.checked os 7 .any (Rows.indexTellsSpec.pre6 enc Try.prog Try.f7 Rows.indexTellsRow.domain false) (Rows.indexTellsSpec.post enc Try.prog Try.f7 false true false false) := by
  refine returnsInHanded_of_change_shaped (C := Try.checked) own started (by kernel_rfl) Try.func7
    (ChangeSpec.witness6 (enc := enc) (C := Try.checked) false ⟨#[], #[.slice none 0 0, .slice none 0 0, .string ⟨#[]⟩], []⟩ 8 (by kernel_rfl) (by kernel_rfl) (by kernel_rfl) (by kernel_rfl)) ?_
  intro W base args ds gs before hval0 hW hcnd hsz0 hSh _
  have hval : ∀ (j : Nat) t v, Try.f7.params[j]? = some t → args[j]? = some v → Value.okWide Try.prog W .any base t v := hval0
  have hW' := hW
  obtain ⟨p, q, hA0, hV, rfl, hfz, hnd⟩ := hW
  have hA : DataW.TrodAll enc Try.prog W 0 (fun _ => true) true Try.f7.params.toList args.toList ds p := hA0
  have hsz : (DataW.weightsEach Try.prog (Try.f7.params.toList ++ Rows.indexTellsSpec.plain.varTypes Try.prog) (ds ++ gs)).all (fun n => decide (n ≤ reachBytes)) = true := hsz0
  rw [Try.params7] at hA hval hsz
  obtain ⟨v0, vs0, d0, ds0, p0, q0, hargs, rfl, rfl, h0, r0⟩ := trodAll_cons hA
  obtain ⟨v1, vs1, d1, ds1, p1, q1, rfl, rfl, rfl, h1, r1⟩ := trodAll_cons r0
  obtain ⟨v2, vs2, d2, ds2, p2, q2, rfl, rfl, rfl, h2, r2⟩ := trodAll_cons r1
  obtain ⟨rfl, rfl, rfl⟩ := trodAll_nil r2
  obtain rfl : args = #[v0, v1, v2] := by cases args; simp_all
  obtain ⟨rfl, rfl⟩ := trodVars_none hV
  have u0 := (isLls_of (hval 0 _ v0 rfl rfl) h0 (sized_at hsz 0 rfl rfl))
  have u1 := (isMtsI_of (hval 1 _ v1 rfl rfl) h1 (sized_at hsz 1 rfl rfl))
  have u2 := (isString_of Try.underlying9 (hval 2 _ v2 rfl rfl) h2 (sized_at hsz 2 rfl rfl))
  clear hA0 hval0
  refine (walk v0 v1 v2 W u0 u1 u2 (mtab_of_shaped hSh)).mono fun e W' ⟨he, bel⟩ => ?_
  subst he
  exact ⟨_, rfl, _, _, _, [], _, [], hW', trodAll_mk1 (shut_bool Try.underlying4 _), (trodAll_cons_mk (Below.trod laidOut (by kernel_rfl) (of_decide_eq_true (by kernel_rfl)) h0 bel (trod_lt' h0)) (trodAll_cons_mk (Below.trod laidOut (by kernel_rfl) (of_decide_eq_true (by kernel_rfl)) h1 bel (trod_lt' h1)) (trodAll_cons_mk (Below.trod laidOut (by kernel_rfl) (of_decide_eq_true (by kernel_rfl)) h2 bel (trod_lt' h2)) trodAll_mk0))), rfl, bel.frame _, fun h => by cases h⟩
theorem over : Rows.indexTellsRow.holds Try.pinned (OpenSpec.ofChange Rows.indexTellsSpec) :=
  OpenClaim.holds_of_wide 7 Try.f7 rfl rfl rfl rfl rfl rfl rfl ⟨rfl, rfl, rfl, rfl, rfl⟩ rfl rfl rfl rfl rfl (by kernel_rfl) Try.func7 (by kernel_rfl)
    (of_decide_eq_true (by kernel_rfl)) (by unfold Func.isWrapper; first | (rw [if_pos (by decide +kernel)]; kernel_rfl) | (rw [if_neg (by decide +kernel)]; exact ⟨rfl, rfl⟩))
    (fun os started H enc _ => lifted os started H enc)
theorem proved : Rows.IndexTellsSaid := over
#print axioms proved
end Go.Proofs.Ytlfhcjhbnakamaa.IndexTells
