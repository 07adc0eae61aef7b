/-
  The index: the walk of Find.
-/
import Derived.Test.YtlfhcjhbnakamaaIz2
import Derived.Test.YtlfhcjhbnakamaaIz6
import Derived.Test.YtlfhcjhbnakamaaIz7
import Derived.Test.YtlfhcjhbnakamaaIz8
import Derived.Test.YtlfhcjhbnakamaaIz9
import Derived.Test.YtlfhcjhbnakamaaIz14
import Derived.Sort.KeysCollected
import Derived.Test.YtlfhcjhbnakamaaProg
import Derived.Deep.QuietTactic
import Derived.BigQuiet
import Derived.IntWalk
import Derived.Deep.RegionHeld3
import Derived.Deep.CutBlock
namespace Go.Proofs.Ytlfhcjhbnakamaa.Iy
open Go.RowKit Go.Gh Go.Maps Go.WideShapes Go.Proofs.Ytlfhcjhbnakamaa.Rk Go.Proofs.Ytlfhcjhbnakamaa.Lab Go.Proofs.Ytlfhcjhbnakamaa.Ix
set_option linter.unusedVariables false
set_option linter.unusedSimpArgs false
theorem notTo_nil : ∀ N : Nat, notTo [] N = (List.range N).map (fun i : Nat => (i : Int))
  | 0 => rfl
  | N + 1 => by
    rw [notTo, if_neg (by simp), notTo_nil N, List.range_succ, List.map_append]
    rfl
/-- What Find answers. -/
def FindP (w : World) (L : List (List Lb)) (M : List Mt) (e : Ending) (w' : World) : Prop := Below w.heap.size w w' ∧ ((matchF M ≠ 0 ∧ e = .returned (.tuple #[.slice none 0 0, .int .i64 (matchF M)])) ∨ (matchF M = 0 ∧ ∃ v', e = .returned (.tuple #[v', .int .i64 0]) ∧ Ns w' v' (outF L M)))
/-- What stands between two rounds. -/
structure FiR (w : World) (xb bx : Nat) (L : List (List Lb)) (M : List Mt) (k : Nat) (v : Value) (wr : World) : Prop where
  out : OwI w.heap.size wr v (outF L (M.take k))
  bel : Below w.heap.size w wr
  hx : wr.heap[bx]? = some (.cells #[.pointer (some ⟨xb, 0, none⟩)] 60 (0, 0))
set_option maxHeartbeats 8000000 in
set_option maxRecDepth 100000 in
theorem find_any {B mb xb n c : Nat} {L : List (List Lb)} {ao : Option Addr} (v : Value) (M : List Mt) (w : World) (hA : AllAt B mb xb L ao n c w) (hG : GrpAt mb (prs 0 L) w) (hM : MTab w) (hL : ∀ l ∈ L, labelF l = 0) (hn30 : n ≤ 200) (hs : Sp MtR 3 w v M) :
    Calls Try.prog 44 #[.pointer (some ⟨xb, 0, none⟩), v] w (FindP w L M) := by
  have hck := fun W (hW : Below w.heap.size w W) => mtcheck_any v M W (hs.below mtR_mono hW)
  obtain ⟨F, hF⟩ : ∃ F, matchF M = F := ⟨_, rfl⟩
  rw [hF] at hck
  obtain ⟨mo, mc, rfl, hmc, hmc2⟩ := hs.shape
  obtain ⟨q, hq⟩ : ∃ q, M.length = q := ⟨_, rfl⟩
  rw [hq] at hs hck hmc ⊢
  have HQ := Lib.hid hq
  have HF := Lib.hid hF
  have HS := Lib.hid hs
  have HCK := Lib.hid hck
  have HA := Lib.hid hA
  have HG := Lib.hid hG
  have HM := Lib.hid hM
  have HL := Lib.hid hL
  have hbA : Below w.heap.size w (w.alloc (.cells #[.pointer (some ⟨xb, 0, none⟩)] 60)) := (Below.refl _ _).alloc (Nat.le_refl _) _
  clear hq hF hs hck hA hG hM hL
  obtain ⟨bx, hbx⟩ : ∃ b, w.heap.size = b := ⟨_, rfl⟩
  go_enter Try.func44, Try.ntmps44
  go_upto_region 1 with (fail)
  refine wp_abs (fun wx => wx.heap[w.heap.size]? = some (.cells #[.pointer (some ⟨xb, 0, none⟩)] 60 (0, 0)) ∧ Below w.heap.size w wx) ⟨heap_alloc_new w _, hbA⟩ ?_
  rw [hbx]
  rintro wa ⟨hxa, hba⟩
  rw [← hbx] at hba
  have HXA := Lib.hid hxa
  have HBA := Lib.hid hba
  have HBX := Lib.hid hbx
  clear hxa hba hbx hbA
  go_wp2_with fail
  refine (HCK.out _ HBA.out).mono ?_
  rintro e w1 ⟨rfl, hb1⟩
  have HB1 := Lib.hid (HBA.out.trans (hb1.mono HBA.out.size))
  have HX1 := Lib.hid ((hb1.block _ (Array.getElem?_eq_some_iff.1 HXA.out).1).trans HXA.out)
  clear hb1 HBA HXA
  by_cases hz : F = 0
  case neg =>
    have t1 : (F != 0) = true := by rw [bne_iff_ne]; exact hz
    have HE : Hid (FindP w L M (.returned (.tuple #[.slice none 0 0, .int .i64 F])) w1) := Lib.hid ⟨HB1.out, Or.inl ⟨by rw [HF.out]; exact hz, by rw [HF.out]⟩⟩
    clear hz
    go_wp2_with fail
    go_ret2
    exact HE.out
  subst hz
  have hq10 : q ≤ 10 := by rw [← HQ.out]; exact (matchF_zero HF.out).1
  have hAW := HA.out.turn (grown_of_below HB1.out) (by simp) (off_none _ _) (off_none _ _)
  obtain ⟨⟨d0, -⟩, -⟩ := hAW.cells
  have x0 := (row_cell 0 _ HX1.out rfl).1
  clear hAW
  go_wp2_with fail
  refine (Not_own (n : Int) (.slice none 0 0) [] w1 (sl_nil _ _) (by simp)).mono ?_
  rintro e w2 ⟨v2, rfl, hown2, hb2⟩
  have hneg : ¬ ((n : Int) < 0 ∨ 1000 < (n : Int)) := by omega
  rw [if_neg hneg, Int.toNat_natCast, notTo_nil] at hown2
  rw [if_neg hneg]
  have HR0 : Hid (FiR w xb bx L M 0 v2 w2) := Lib.hid ⟨by
    have h1 : outF L (M.take 0) = (List.range n).map (fun i : Nat => (i : Int)) := by
      rw [List.take_zero, outF_nil, HA.out.len]
    rw [h1]
    exact own_mono hown2 HB1.out.size, HB1.out.trans (hb2.mono HB1.out.size), (hb2.block _ (Array.getElem?_eq_some_iff.1 HX1.out).1).trans HX1.out⟩
  obtain ⟨o2, c2, hv2, -⟩ := own_shape hown2
  subst hv2
  have hln : ((List.range n).map (fun i : Nat => (i : Int))).length = n := by simp
  rw [hln] at HR0 ⊢
  clear hln hown2 hb2 HB1 HX1 x0 d0 hneg
  go_wp2_with fail
  go_loopw [7, 27] (fun u i wr => ∃ k : Nat, k ≤ q ∧ i = .int .i64 k ∧ Hid (FiR w xb bx L M k u wr)) (fun _ i _ => q - (intOf i).toNat)
  case atStart => exact ⟨0, Nat.zero_le _, rfl, HR0⟩
  case round =>
    obtain ⟨k, hk, rfl, HR⟩ := hrel
    have hR := HR.out
    obtain ⟨uo, uc, hv, -⟩ := own_shape hR.out
    subst hv
    obtain ⟨un, hun⟩ : ∃ un, (outF L (M.take k)).length = un := ⟨_, rfl⟩
    rw [hun] at HR ⊢
    have HUN := Lib.hid hun
    clear hR hun
    by_cases hlt : k < q
    case neg =>
      obtain rfl : k = q := by omega
      have HE : Hid (FindP w L M (.returned (.tuple #[.slice uo un uc, .int .i64 0])) wr) := Lib.hid ⟨HR.out.bel, Or.inr ⟨HF.out, _, rfl, by
        have h1 := own_sl HR.out.out
        rw [List.take_of_length_le (by rw [HQ.out]; exact Nat.le_refl _)] at h1
        exact h1⟩⟩
      go_wp2_with fail
      go_ret2
      exact HE.out
    obtain ⟨x, hx⟩ : ∃ x, M[k]? = some x := ⟨_, List.getElem?_eq_getElem (by rw [HQ.out]; exact hlt)⟩
    obtain ⟨b, off, cs, rfl, ⟨rfl, hx1, hx2, hx3, hx4⟩, -, hcell⟩ := (HS.out.below mtR_mono HR.out.bel).get hx
    have e0 := hcell 0 _ rfl
    have e1 := hcell 1 _ rfl
    have e2 := hcell 2 _ rfl
    rw [Nat.add_zero] at e0
    obtain ⟨S1, hS1⟩ : ∃ S, S = mkS x.nm := ⟨_, rfl⟩
    obtain ⟨S2, hS2⟩ : ∃ S, S = mkS x.vl := ⟨_, rfl⟩
    rw [← hS1] at e1
    rw [← hS2] at e2
    have HS1 := Lib.hid hS1
    have HS2 := Lib.hid hS2
    have HX := Lib.hid hx
    have hk0 : (0 : Int) ≤ (k : Int) := by omega
    have hk1 : (k : Int) < (q : Int) := by omega
    clear hcell hS1 hS2 hx
    go_upto_region 8 with (fail)
    refine wp_abs (fun wx => wx.heap[wr.heap.size]? = some (.cells #[.int .i64 x.kd, .string S1, .string S2] 102 (0, 0)) ∧ FiR w xb bx L M k (.slice uo un uc) wx) ⟨heap_alloc_new wr _, ⟨HR.out.out.alloc _, HR.out.bel.alloc HR.out.bel.size _, (Below.heap_alloc _ _ _ (Array.getElem?_eq_some_iff.1 HR.out.hx).1).trans HR.out.hx⟩⟩ ?_
    obtain ⟨bY, hbY⟩ : ∃ b, wr.heap.size = b := ⟨_, rfl⟩
    rw [hbY]
    rintro wl ⟨hyb, hRl⟩
    have HYB := Lib.hid hyb
    have HRL := Lib.hid hRl
    obtain ⟨⟨y0, y1, y2⟩, -⟩ := bx3 hyb
    clear hbY hyb hRl e0 e1 e2 HR
    have hUL : un ≤ 200 := by
      have h1 := outF_len L (M.take k)
      rw [HUN.out, HA.out.len] at h1
      omega
    by_cases hcase : x.kd = 1 ∧ x.vl ≠ []
    · obtain ⟨hkd, hvl⟩ := hcase
      have t1 : (x.kd == 1) = true := by rw [hkd]; rfl
      have t2 : (S2.toList = []) = False := eq_false (by rw [HS2.out, mkS_list]; simpa using hvl)
      have t3 : S2.toList.isEmpty = false := by rw [HS2.out, mkS_list]; cases hv : x.vl with | nil => exact absurd hv hvl | cons a b => rfl
      have hdr : Below wl.heap.size wl wl.drew := (Below.refl _ _).drew
      have hAW := HA.out.turn (grown_of_below HRL.out.bel) (by simp) (off_none _ _) (off_none _ _)
      obtain ⟨⟨-, d1⟩, -⟩ := hAW.cells
      have x0 := (row_cell 0 _ HRL.out.hx rfl).1
      obtain ⟨D, hD, hGD⟩ := (HG.out.below HRL.out.bel).below hdr
      have hfit : Fits2 ⟨x.nm, x.vl⟩ := ⟨by show x.nm.length ≤ _; omega, by show x.vl.length ≤ _; omega⟩
      have hplen : (prs 0 L).length ≤ 2000 := by
        have h1 := prs_len L 0 (fun l hl => label_len (HL.out l hl))
        rw [HA.out.len] at h1
        omega
      obtain ⟨vL, zs, hlk, hat, hoi, -, -⟩ := hD.at law Try.underlying91 (zeroIs _) (by unfold maxLen; omega) (keyLb ⟨x.nm, x.vl⟩ hfit)
      obtain rfl := hGD.zs hfit hoi hat
      have hlv : lbV ⟨x.nm, x.vl⟩ = .agg #[.string S1, .string S2] := by rw [HS1.out, HS2.out]; rfl
      rw [hlv] at hlk
      obtain ⟨ln, hln⟩ : ∃ ln, (plc (prs 0 L) ⟨x.nm, x.vl⟩).length = ln := ⟨_, rfl⟩
      have hpl := plc_len (prs 0 L) ⟨x.nm, x.vl⟩
      have hrow := hoi.1
      rw [hln] at hrow hpl
      obtain ⟨lo, lc, rfl, -, -, -⟩ := own_shape hrow
      have hnL : Ns wl.drew (.slice lo ln lc) (plc (prs 0 L) ⟨x.nm, x.vl⟩) := by
        unfold Ns
        rw [hln]
        exact own_sl hrow
      have hnO : Ns wl.drew (.slice uo un uc) (outF L (M.take k)) := (own_sl HRL.out.out).below hdr
      have HAND := Lib.hid (And_own (.slice uo un uc) (.slice lo ln lc) _ _ wl.drew hnO hnL (by rw [HUN.out]; omega) (by rw [hln]; omega))
      have HEQ := Lib.hid (outF_and HL.out HX.out hkd hvl)
      have HS4 : Hid (∀ W, Below wl.heap.size wl W → W.cell? ⟨bx, 0, none⟩ = some (.pointer (some ⟨xb, 0, none⟩)) ∧ W.cell? ⟨xb, 1, none⟩ = some (.map (some mb)) ∧ W.cell? ⟨bY, 1, none⟩ = some (.string S1) ∧ W.cell? ⟨bY, 2, none⟩ = some (.string S2)) := Lib.hid (fun W hb =>
        ⟨(hb.cell (p := ⟨bx, 0, none⟩) (cell_lt x0)).trans x0, (hb.cell (p := ⟨xb, 1, none⟩) (cell_lt d1)).trans d1, (hb.cell (p := ⟨bY, 1, none⟩) (cell_lt y1)).trans y1, (hb.cell (p := ⟨bY, 2, none⟩) (cell_lt y2)).trans y2⟩)
      have q0 := HS4.out _ hdr
      have HDR := Lib.hid hdr
      clear hAW hD hGD hat hoi hrow hnL hnO hlv hln hpl hfit hvl hkd hplen
      go_upto_region 9 with (fail)
      clear x0 d1 y0 y1 y2 hdr
      go_region_held3 (fun W => W.cell? ⟨bx, 0, none⟩ = some (.pointer (some ⟨xb, 0, none⟩)) ∧ W.cell? ⟨xb, 1, none⟩ = some (.map (some mb)) ∧ W.cell? ⟨bY, 1, none⟩ = some (.string S1) ∧ W.cell? ⟨bY, 2, none⟩ = some (.string S2)) (first | (with_reducible exact q1) | (with_reducible exact q0) | go_keep)
        (first | (go_at_call 27; refine HAND.out.mono ?_; rintro e w3 ⟨v3, rfl, hown3, hb3⟩; have HB3 : Hid (Below wl.heap.size wl w3) := Lib.hid (HDR.out.trans (hb3.mono HDR.out.size)); have q1 := HS4.out _ HB3.out; have HO3 := Lib.hid hown3; clear hb3 hown3))
      all_goals
        have HR2 : Hid (FiR w xb bx L M (k + 1) v3 w3) := Lib.hid ⟨by
          have h1 := HO3.out
          rw [HEQ.out] at h1
          exact own_mono h1 HRL.out.bel.size, HRL.out.bel.trans (HB3.out.mono HRL.out.bel.size), (HB3.out.block _ (Array.getElem?_eq_some_iff.1 HRL.out.hx).1).trans HRL.out.hx⟩
        clear q0 q1
        go_wp2_with fail
        go_roundw
        case rel => exact ⟨k + 1, by omega, by go_num, HR2⟩
        case measure => simp [intOf]; omega
    · have HP : Hid (∀ W z, FnC w xb bx bY x W → z ∈ outF L (M.take k) → Calls Try.prog 68 #[.int .i64 z, .pointer (some ⟨bx, 0, none⟩), .pointer (some ⟨bY, 0, none⟩)] W fun e W' => e = .returned (.bool (!fitB (L.getD z.toNat []) x)) ∧ Below W.heap.size W W') := Lib.hid (fun W z hW hz => by
        obtain ⟨i, hi, rfl, -⟩ := mem_outF.1 hz
        have hli : L[i]? = some L[i] := List.getElem?_eq_getElem hi
        have hld : L.getD ((i : Int)).toNat [] = L[i] := by rw [Int.toNat_natCast, List.getD_eq_getElem?_getD, hli]; rfl
        rw [hld]
        exact clos_any HA.out HM.out hli (HL.out _ (List.getElem_mem hi)) hW)
      have HFN : Hid (FnC w xb bx bY x wl) := Lib.hid ⟨HRL.out.bel, HRL.out.hx, by rw [← HS1.out, ← HS2.out]; exact HYB.out⟩
      have HDEL := Lib.hid (del_any HP.out HRL.out.out HFN.out (Nat.le_refl _) (by rw [HUN.out]; omega))
      have HEQ := Lib.hid (outF_filter (L := L) HX.out)
      have HRW : Hid (∀ (v3 : Value) (w3 : World), OwI w.heap.size w3 v3 ((outF L (M.take k)).filter (fun z => !!fitB (L.getD z.toNat []) x)) → FnC w xb bx bY x w3 → FiR w xb bx L M (k + 1) v3 w3) := Lib.hid (fun v3 w3 h1 h2 => ⟨by
        rw [HEQ.out]
        simp only [Bool.not_not] at h1
        exact h1, h2.bel, h2.hx⟩)
      have x0 := (row_cell 0 _ HRL.out.hx rfl).1
      have hmf : ∀ (fn : Fn) (first cap : Array Value) (w : World), (Instr.makeFunc fn first cap).run Try.prog w = .ok (.func fn first cap) w := fun _ _ _ _ => rfl
      by_cases hkd : x.kd = 1
      · have hvl : x.vl = [] := Classical.byContradiction fun h => hcase ⟨hkd, h⟩
        have t1 : (x.kd == 1) = true := by rw [hkd]; rfl
        have t2 : (S2.toList = []) = True := eq_true (by rw [HS2.out, mkS_list, hvl])
        have t3 : S2.toList.isEmpty = true := by rw [HS2.out, mkS_list, hvl]; rfl
        clear hcase hkd hvl
        go_wp2_with fail
        refine HDEL.out.mono ?_
        rintro e w3 ⟨v3, rfl, hown3, hC3⟩
        have HR2 := Lib.hid (HRW.out v3 w3 hown3 hC3)
        clear hown3 hC3
        go_wp2_with fail
        go_roundw
        case rel => exact ⟨k + 1, by omega, by go_num, HR2⟩
        case measure => simp [intOf]; omega
      · have t1 : (x.kd == 1) = false := beq_eq_false_iff_ne.2 hkd
        clear hcase hkd
        go_wp2_with fail
        refine HDEL.out.mono ?_
        rintro e w3 ⟨v3, rfl, hown3, hC3⟩
        have HR2 := Lib.hid (HRW.out v3 w3 hown3 hC3)
        clear hown3 hC3
        go_wp2_with fail
        go_roundw
        case rel => exact ⟨k + 1, by omega, by go_num, HR2⟩
        case measure => simp [intOf]; omega
end Go.Proofs.Ytlfhcjhbnakamaa.Iy
/-
  The index: what the law needs of the plain functions.
-/
namespace Go.Proofs.Ytlfhcjhbnakamaa.Iy
open Go.RowKit Go.Gh Go.Maps Go.Proofs.Ytlfhcjhbnakamaa.SortSt
set_option linter.unusedVariables false
set_option linter.unusedSimpArgs false
theorem snoc_ind {α : Type} {P : List α → Prop} (h0 : P []) (hs : ∀ l a, P l → P (l ++ [a])) (l : List α) : P l := by
  have h : ∀ r : List α, P r.reverse := fun r => by
    induction r with
    | nil => exact h0
    | cons a r ih => rw [List.reverse_cons]; exact hs _ _ ih
  have := h l.reverse
  rwa [List.reverse_reverse] at this
theorem fault_step {L : List (List Lb)} {k : Nat} {l : List Lb} (h : L[k]? = some l) : faultG (L.take (k + 1)) = if faultG (L.take k) = 0 then labelF l else faultG (L.take k) := by
  induction L generalizing k with
  | nil => simp at h
  | cons a r ih =>
    cases k with
    | zero =>
      obtain rfl : a = l := by simpa using h
      simp [faultG]
      intro h; exact h.symm
    | succ k =>
      rw [List.take_succ_cons, List.take_succ_cons, faultG, faultG, ih (by simpa using h)]
      by_cases ha : labelF a = 0
      · rw [if_pos ha, if_pos ha]
      · rw [if_neg ha, if_neg ha, if_neg ha]
/-- What is wrong behind k lists. -/
def badK (L : List (List Lb)) (k : Nat) : Int := if 200 < L.length then 2 else faultG (L.take k)
theorem badK_step {L : List (List Lb)} {k : Nat} {l : List Lb} (h : L[k]? = some l) : badK L (k + 1) = if badK L k = 0 then labelF l else badK L k := by
  unfold badK
  split
  · rfl
  · exact fault_step h
theorem badK_end (L : List (List Lb)) : badK L L.length = newF L := by
  unfold badK newF
  rw [List.take_length]
theorem badK_zero (L : List (List Lb)) : badK L 0 = if 200 < L.length then 2 else 0 := by
  unfold badK
  rw [List.take_zero]
  rfl
/-- The values of a name, each once. -/
def vstep (nm : By) (V : List By) (y : Lb) : List By := if y.nm = nm ∧ y.vl ∉ V then V ++ [y.vl] else V
def vls (nm : By) (ys : List Lb) : List By := ys.foldl (vstep nm) []
theorem vls_snoc (nm : By) (ys : List Lb) (y : Lb) : vls nm (ys ++ [y]) = vstep nm (vls nm ys) y := by
  unfold vls
  rw [List.foldl_append]
  rfl
theorem vls_nodup (nm : By) (ys : List Lb) : (vls nm ys).Nodup := by
  refine snoc_ind (P := fun ys => (vls nm ys).Nodup) List.nodup_nil (fun ys y ih => ?_) ys
  · rw [vls_snoc]
    unfold vstep
    split
    · rename_i h
      exact List.nodup_append.2 ⟨ih, by simp, fun a ha b hb => by simp at hb; subst hb; exact fun e => h.2 (e ▸ ha)⟩
    · exact ih
theorem mem_vls (nm : By) (ys : List Lb) (v : By) : v ∈ vls nm ys ↔ (⟨nm, v⟩ : Lb) ∈ ys := by
  refine snoc_ind (P := fun ys => v ∈ vls nm ys ↔ (⟨nm, v⟩ : Lb) ∈ ys) (by simp [vls]) (fun ys y ih => ?_) ys
  · rw [vls_snoc, List.mem_append, List.mem_singleton]
    unfold vstep
    split
    · rename_i h
      rw [List.mem_append, ih, List.mem_singleton]
      constructor
      · rintro (h1 | h1)
        · exact Or.inl h1
        · refine Or.inr ?_
          cases y
          simp only at h h1
          rw [h1, h.1]
      · rintro (h1 | h1)
        · exact Or.inl h1
        · exact Or.inr (by rw [← h1])
    · rename_i h
      constructor
      · intro h1
        exact Or.inl (ih.1 h1)
      · rintro (h1 | h1)
        · exact ih.2 h1
        · have hn : y.nm = nm := by rw [← h1]
          have hv : y.vl = v := by rw [← h1]
          by_cases hm : y.vl ∈ vls nm ys
          · rw [← hv]; exact hm
          · exact absurd ⟨hn, hm⟩ h
theorem vls_len (nm : By) (ys : List Lb) : (vls nm ys).length ≤ ys.length := by
  refine snoc_ind (P := fun ys => (vls nm ys).length ≤ ys.length) (Nat.le_refl _) (fun ys y ih => ?_) ys
  · rw [vls_snoc, List.length_append, List.length_singleton]
    unfold vstep
    split
    · rw [List.length_append, List.length_singleton]; omega
    · omega
theorem valsOf_nodup {nm : By} {ys : List Lb} (h : ys.Nodup) : (valsOf nm ys).Nodup := by
  unfold valsOf
  rw [List.Nodup, List.pairwise_map]
  refine (List.Pairwise.filter _ h).imp_of_mem (fun {a b} ha hb hne e => hne ?_)
  have h1 : a.nm = nm := by simpa using (List.mem_filter.1 ha).2
  have h2 : b.nm = nm := by simpa using (List.mem_filter.1 hb).2
  cases a; cases b
  simp only at h1 h2 e
  rw [h1, h2, e]
theorem mem_valsOf {nm : By} {ys : List Lb} {v : By} : v ∈ valsOf nm ys ↔ (⟨nm, v⟩ : Lb) ∈ ys := by
  unfold valsOf
  simp only [List.mem_map, List.mem_filter, decide_eq_true_eq]
  constructor
  · rintro ⟨y, ⟨h1, h2⟩, rfl⟩
    rw [← h2]
    exact h1
  · intro h
    exact ⟨_, ⟨h, rfl⟩, rfl⟩
/-- Both answer the same values. -/
theorem vals_same {L : List (List Lb)} {nm : By} {ys : List Lb} (hL : ∀ l ∈ L, labelF l = 0) (hn : ys.Nodup) (hf : ∀ y ∈ ys, Fits2 y) (hm : ∀ y, Fits2 y → (y ∈ ys ↔ plc (prs 0 L) y ≠ [])) : srtS (valsOf nm ys) = srtS (vls nm L.flatten) := by
  refine mergeSort_of_perm ((List.perm_ext_iff_of_nodup (valsOf_nodup hn) (vls_nodup nm _)).2 fun v => ?_)
  rw [mem_valsOf, mem_vls, List.mem_flatten]
  constructor
  · intro h
    have h1 := (hm _ (hf _ h)).1 h
    obtain ⟨i, hi⟩ := List.exists_mem_of_ne_nil _ h1
    obtain ⟨j, l, h2, h3, -⟩ := (mem_prs L 0 _ i).1 (mem_plc.1 hi)
    exact ⟨l, List.mem_of_getElem? h2, h3⟩
  · rintro ⟨l, h1, h2⟩
    have hfit := label_fits (hL l h1) _ h2
    refine (hm _ hfit).2 (fun h => ?_)
    obtain ⟨j, hj⟩ := List.mem_iff_getElem?.1 h1
    have : ((j : Nat) : Int) ∈ plc (prs 0 L) ⟨nm, v⟩ := mem_plc.2 ((mem_prs L 0 _ _).2 ⟨j, l, hj, h2, by simp⟩)
    rw [h] at this
    simp at this
/-- Which lists fit, of the first k. -/
def wantK (L : List (List Lb)) (M : List Mt) (k : Nat) : List Int := ((List.range k).filter (fun i => fitsB (L.getD i []) M)).map (fun i : Nat => (i : Int))
theorem wantK_end (L : List (List Lb)) (M : List Mt) : wantK L M L.length = outF L M := rfl
theorem wantK_step (L : List (List Lb)) (M : List Mt) {k : Nat} {l : List Lb} (h : L[k]? = some l) : wantK L M (k + 1) = if fitsB l M = true then wantK L M k ++ [(k : Int)] else wantK L M k := by
  have hl : L.getD k [] = l := by rw [List.getD_eq_getElem?_getD, h]; rfl
  unfold wantK
  rw [List.range_succ, List.filter_append, List.map_append]
  by_cases hf : fitsB l M = true
  · rw [if_pos hf, List.filter_cons_of_pos (by rw [hl]; exact hf)]
    rfl
  · rw [if_neg hf, List.filter_cons_of_neg (by rw [hl]; exact hf)]
    simp
theorem wantK_len (L : List (List Lb)) (M : List Mt) (k : Nat) : (wantK L M k).length ≤ k := by
  unfold wantK
  rw [List.length_map]
  exact Nat.le_trans (List.length_filter_le _ _) (by simp)
end Go.Proofs.Ytlfhcjhbnakamaa.Iy
/-
  Slices of texts: the walks of slices.Index, Contains, Equal.
-/
namespace Go.Proofs.Ytlfhcjhbnakamaa.SortSt
open Go.RowKit Go.Gh Go.Proofs.Ytlfhcjhbnakamaa.Rk
set_option linter.unusedVariables false
set_option linter.unusedSimpArgs false
/-- A list of texts. -/
def Ss (w : World) (v : Value) (l : List By) : Prop := Sl w 1 v l.length (l.map (fun s => Value.string (mkS s)))
theorem Ss.below {w w' : World} {v : Value} {l : List By} (h : Ss w v l) (hb : Below w.heap.size w w') : Ss w' v l := Sl.below h hb
theorem Ss.at {w : World} {ao : Option Addr} {n c i : Nat} {l : List By} {z : By} (h : Ss w (.slice ao n c) l) (hz : l[i]? = some z) : ∃ b off, ao = some ⟨b, off, none⟩ ∧ w.cell? ⟨b, off + i, none⟩ = some (.string (mkS z)) := by
  obtain ⟨ao', cap, e, _, _, _, _, h8⟩ := h
  simp at e
  obtain ⟨rfl, rfl, rfl⟩ := e
  obtain ⟨b, off, rfl, hc⟩ := h8 (by have := (List.getElem?_eq_some_iff.1 hz).1; omega)
  exact ⟨b, off, rfl, hc i _ (by rw [List.getElem?_map, hz]; rfl)⟩
set_option maxRecDepth 100000 in
theorem equalS_any (v u : Value) (l : List By) (w : World) (hs : Ss w v l) (ht : Ss w u l) :
    Calls Try.prog 42 #[v, u] w fun e w' => e = .returned (.bool true) ∧ ∃ q, w' = w.drewN q := by
  obtain ⟨ao, c, rfl, hnc, hc, _⟩ := hs.shape
  obtain ⟨bo, d, rfl, hod, hd, _⟩ := ht.shape
  obtain ⟨n, hm⟩ : ∃ n, l.length = n := ⟨_, rfl⟩
  have HS := Lib.hid hs
  have HT := Lib.hid ht
  have HM := Lib.hid hm
  rw [hm] at hnc hod HS HT ⊢
  clear hs ht hm
  go_enter Try.func42, Try.ntmps42
  go_wp2_with fail
  go_loopw [5, 13] (fun _ i wr => ∃ k : Nat, k ≤ n ∧ i = .int .i64 k ∧ ∃ q, wr = w.drewN q) (fun _ i _ => n - (intOf i).toNat)
  case atStart => exact ⟨0, by omega, rfl, 0, rfl⟩
  case round =>
    obtain ⟨k, hk, rfl, q, hq⟩ := hrel
    have hbr : Below w.heap.size w wr := by rw [hq]; exact below_drewN (Below.refl _ _) _
    have HQ := Lib.hid hq
    clear hq
    by_cases hlt : k < n
    · obtain ⟨z, hz⟩ : ∃ z, l[k]? = some z := ⟨_, List.getElem?_eq_getElem (by rw [HM.out]; exact hlt)⟩
      obtain ⟨b, off, rfl, hc1⟩ := (HS.out.below hbr).at hz
      obtain ⟨b', off', rfl, hc2⟩ := (HT.out.below hbr).at hz
      have hzz : ((mkS z).toList != (mkS z).toList) = false := by simp
      clear hz
      go_wp2_with fail
      go_quiet (fail)
      go_wp2
      go_roundw
      case rel => exact ⟨k + 1, by omega, by go_num, q + nq, by rw [HQ.out]; exact drew_add _ _ _⟩
      case measure => simp [intOf]; omega
    · have hkn : k = n := by omega
      subst hkn
      go_wp2_with fail
      go_ret
      exact ⟨rfl, q, HQ.out⟩
/-- Where a number stands first. -/
def IdxAtS (l : List By) (x : By) (i : Int) : Prop := (0 ≤ i ∧ x ∈ l) ∨ (i = -1 ∧ x ∉ l)
set_option maxRecDepth 100000 in
theorem indexS_any (v : Value) (l : List By) (x : By) (w : World) (hs : Ss w v l) :
    Calls Try.prog 63 #[v, .string (mkS x)] w fun e w' => ∃ i, e = .returned (.int .i64 i) ∧ IdxAtS l x i ∧ w' = w := by
  obtain ⟨ao, c, rfl, hnc, hc, _⟩ := hs.shape
  obtain ⟨n, hm⟩ : ∃ n, l.length = n := ⟨_, rfl⟩
  have HS := Lib.hid hs
  have HM := Lib.hid hm
  rw [hm] at hnc HS ⊢
  clear hs hm
  go_enter Try.func63, Try.ntmps63
  go_wp2_with fail
  go_loopw [5, 8] (fun _ i wr => ∃ k : Nat, k ≤ n ∧ i = .int .i64 k ∧ Hid (x ∉ l.take k) ∧ w = wr) (fun _ i _ => n - (intOf i).toNat)
  case atStart => exact ⟨0, by omega, rfl, Lib.hid (by simp), rfl⟩
  case round =>
    obtain ⟨k, hk, rfl, HX, rfl⟩ := hrel
    by_cases hlt : k < n
    · obtain ⟨z, hz⟩ : ∃ z, l[k]? = some z := ⟨_, List.getElem?_eq_getElem (by rw [HM.out]; exact hlt)⟩
      obtain ⟨b, off, rfl, hc1⟩ := HS.out.at hz
      by_cases hxz : x = z
      · have HF : Hid (IdxAtS l x k) := Lib.hid (Or.inl ⟨by omega, by rw [hxz]; exact List.mem_of_getElem? hz⟩)
        have t1 : ((mkS x).toList == (mkS z).toList) = true := by rw [hxz]; simp
        clear hz hxz
        go_wp2_with fail
        go_ret
        exact ⟨_, rfl, HF.out, rfl⟩
      · have HX2 : Hid (x ∉ l.take (k + 1)) := Lib.hid (by
          obtain ⟨h1, h2⟩ := List.getElem?_eq_some_iff.1 hz
          rw [List.take_succ_eq_append_getElem h1, h2, List.mem_append]
          rintro (h | h)
          · exact HX.out h
          · exact hxz (by simpa using h))
        have t1 : ((mkS x).toList == (mkS z).toList) = false := by rw [mkS_list, mkS_list]; exact beq_eq_false_iff_ne.2 hxz
        clear hz hxz
        go_wp2_with fail
        go_roundw
        case rel => exact ⟨k + 1, by omega, by go_num, HX2, by first | rfl | trivial⟩
        case measure => simp [intOf]; omega
    · have hkn : k = n := by omega
      have HF : Hid (IdxAtS l x (-1)) := Lib.hid (Or.inr ⟨rfl, by
        have := HX.out
        rwa [List.take_of_length_le (by rw [HM.out, hkn]; exact Nat.le_refl _)] at this⟩)
      subst hkn
      go_wp2_with fail
      go_ret
      exact ⟨_, rfl, HF.out, rfl⟩
set_option maxRecDepth 100000 in
theorem containsS_any (v : Value) (l : List By) (x : By) (w : World) (D : Bool) (hs : Ss w v l) (hD : decide (x ∈ l) = D) :
    Calls Try.prog 40 #[v, .string (mkS x)] w fun e w' => e = .returned (.bool D) ∧ w' = w := by
  obtain ⟨ao, c, rfl, -, -, _⟩ := hs.shape
  obtain ⟨n, hm⟩ : ∃ n, l.length = n := ⟨_, rfl⟩
  have HS := Lib.hid hs
  have HD := Lib.hid hD
  rw [hm] at HS ⊢
  clear hs hD hm
  go_enter Try.func40, Try.ntmps40
  go_wp2_with fail
  refine (indexS_any _ l x _ HS.out).mono ?_
  rintro e w1 ⟨i, rfl, hat, rfl⟩
  rcases hat with ⟨h1, h2⟩ | ⟨h1, h2⟩
  · have h3 : D = true := by rw [← HD.out]; exact decide_eq_true h2
    subst h3
    clear h2
    go_wp2_with fail
    go_ret
    exact ⟨rfl, rfl⟩
  · have h3 : D = false := by rw [← HD.out]; exact decide_eq_false h2
    subst h3
    subst h1
    clear h2
    go_wp2_with fail
    go_ret
    exact ⟨rfl, rfl⟩
end Go.Proofs.Ytlfhcjhbnakamaa.SortSt
/-
  Labels: the walk of begins.
-/
namespace Go.Proofs.Ytlfhcjhbnakamaa.Lab
open Go.RowKit Go.Gh
set_option linter.unusedVariables false
set_option linter.unusedSimpArgs false
theorem begins_any (a b : By) (w : World) : Calls Try.prog 71 #[.string (mkS a), .string (mkS b)] w fun e w' => e = .returned (.bool (b.isPrefixOf a)) ∧ w' = w := by
  have ha := mkS_size a
  have hb := mkS_size b
  have hx := mkS_ext a 0 b.length
  have hlb := mkS_list b
  have hpp : ∀ h : b.length ≤ a.length, ((mkS (a.take b.length)).toList == b) = b.isPrefixOf a := by
    intro h
    rw [mkS_list, Bool.eq_iff_iff, beq_iff_eq, List.isPrefixOf_iff_prefix]
    constructor
    · intro e; exact ⟨a.drop b.length, by conv => lhs; lhs; rw [← e]
                                          exact List.take_append_drop _ _⟩
    · rintro ⟨t, rfl⟩; rw [List.take_left]
  rw [Nat.sub_zero, List.drop_zero] at hx
  obtain ⟨F, hF⟩ : ∃ F, b.isPrefixOf a = F := ⟨_, rfl⟩
  rw [hF] at hpp ⊢
  by_cases hl : b.length ≤ a.length
  · have hq := hpp hl
    obtain ⟨X, hX⟩ : ∃ X, mkS (a.take b.length) = X := ⟨_, rfl⟩
    rw [hX] at hx hq
    obtain ⟨SA, hSA⟩ : ∃ X, mkS a = X := ⟨_, rfl⟩
    obtain ⟨SB, hSB⟩ : ∃ X, mkS b = X := ⟨_, rfl⟩
    rw [hSA] at ha hx ⊢
    rw [hSB] at hb hlb ⊢
    rw [← hlb] at hq
    obtain ⟨n, hn⟩ : ∃ n, a.length = n := ⟨_, rfl⟩
    obtain ⟨m, hm⟩ : ∃ n, b.length = n := ⟨_, rfl⟩
    rw [hn] at ha hl
    rw [hm] at hb hl hx
    have hli : (m : Int) ≤ (n : Int) := by omega
    clear hn hm hF hpp hX hSA hSB hlb
    go_enter Try.func71, Try.ntmps71
    go_wp2_with fail
    go_ret
    exact ⟨rfl, rfl⟩
  · have hF2 : F = false := by
      rw [← hF]
      cases h : b.isPrefixOf a with
      | false => rfl
      | true => exact absurd (List.isPrefixOf_iff_prefix.1 h).length_le hl
    subst hF2
    obtain ⟨SA, hSA⟩ : ∃ X, mkS a = X := ⟨_, rfl⟩
    obtain ⟨SB, hSB⟩ : ∃ X, mkS b = X := ⟨_, rfl⟩
    rw [hSA] at ha ⊢
    rw [hSB] at hb ⊢
    have hli : ¬ (SB.size : Int) ≤ (SA.size : Int) := by omega
    clear hx hlb hpp hF ha hb hSA hSB hl
    go_enter Try.func71, Try.ntmps71
    go_wp2_with fail
    go_ret
    exact ⟨by simp, rfl⟩
end Go.Proofs.Ytlfhcjhbnakamaa.Lab
/-
  Labels that fit matches: the walk of FitsAll.
-/
namespace Go.Proofs.Ytlfhcjhbnakamaa.Lab
open Go.RowKit Go.Gh
set_option linter.unusedVariables false
set_option linter.unusedSimpArgs false
theorem ok_memF {M : List Mt} (h : matchF M = 0) {m : Mt} (hm : m ∈ M) : 1 ≤ m.kd ∧ m.kd ≤ 4 ∧ m.nm.length ≤ 20 ∧ m.vl.length ≤ 40 := by
  obtain ⟨h1, h2, h3, h4⟩ := (matchF_zero h).2 m hm
  exact ⟨h1, h2, (nameOk_all h3).2.1, h4⟩
def anyAt (v s : By) (k : Nat) : Bool := (List.range k).any fun i => s.isPrefixOf (v.drop i)
set_option maxHeartbeats 16000000 in
set_option maxRecDepth 100000 in
theorem fitsall_any (v u : Value) (L : List Lb) (M : List Mt) (w : World) (hs : Sp LbR 2 w v L) (ht : Sp MtR 3 w u M) (h0 : labelF L = 0) (h1 : matchF M = 0) : Calls Try.prog 46 #[v, u] w fun e w' => e = .returned (.bool (fitsB L M)) ∧ Below w.heap.size w w' := by
  obtain ⟨ao, c, rfl, -, -⟩ := hs.shape
  obtain ⟨p, hp⟩ : ∃ n, L.length = n := ⟨_, rfl⟩
  rw [hp] at hs ⊢
  obtain ⟨n, hn⟩ : ∃ n, M.length = n := ⟨_, rfl⟩
  obtain ⟨mo, mc, rfl, hnc, hmc⟩ := ht.shapeN hn
  have HS := Lib.hid hs
  have HT := Lib.hid ht
  have HN := Lib.hid hn
  have HLF := Lib.hid h0
  have HOK := Lib.hid (fun m (hm : m ∈ M) => ok_memF h1 hm)
  obtain ⟨R, hR⟩ : ∃ a, fitsB L M = a := ⟨_, rfl⟩
  rw [hR]
  have HR := Lib.hid hR
  clear hp hs ht hn hR h0 h1
  go_enter Try.func46, Try.ntmps46
  go_wp2_with fail
  go_loopw [12] (fun i wr => ∃ (k : Nat), k ≤ n ∧ i = .int .i64 k ∧ Hid ((M.take k).all (fitB L) = true) ∧ Below w.heap.size w wr) (fun i _ => n - (intOf i).toNat)
  case atStart => exact ⟨0, Nat.zero_le _, rfl, Lib.hid rfl, Below.refl _ _⟩
  case round =>
    obtain ⟨k, hk, rfl, HA, hbel⟩ := hrel
    obtain ⟨wB, rfl⟩ : ∃ x, x = wr := ⟨_, rfl⟩
    have hsz := hbel.size
    by_cases hlt : k < n
    case neg =>
      obtain rfl : k = n := by omega
      have HF : Hid (R = true) := Lib.hid (by
        have h := HA.out
        rw [List.take_of_length_le (by rw [HN.out]; exact Nat.le_refl _)] at h
        rw [← HR.out]
        exact h)
      go_wp2_with fail
      go_ret
      rw [HF.out]
      exact ⟨rfl, hbel⟩
    obtain ⟨x, hx⟩ : ∃ x, M[k]? = some x := ⟨_, List.getElem?_eq_getElem (by rw [HN.out]; exact hlt)⟩
    obtain ⟨o1, o2, o3, o4⟩ := HOK.out x (List.mem_of_getElem? hx)
    obtain ⟨b, off, cs, rfl, ⟨rfl, hl1, hl2, hl3, hl4⟩, _, hck⟩ := (HT.out.below mtR_mono hbel).get hx
    have c0 := hck 0 _ rfl
    have c1 := hck 1 _ rfl
    have c2 := hck 2 _ rfl
    rw [Nat.add_zero] at c0
    obtain ⟨F, hF⟩ : ∃ F, fitB L x = F := ⟨_, rfl⟩
    have HX := Lib.hid hx
    have HFF := Lib.hid hF
    have HVI := Lib.hid (fun W (hb : Below w.heap.size w W) => valuein_any _ L x.nm W (HS.out.below lbR_mono hb))
    rw [val_same HLF.out] at HVI
    unfold fitB at hF
    obtain ⟨vf, hvf⟩ : ∃ z, valF L x.nm = z := ⟨_, rfl⟩
    have hv40 : vf.length ≤ 40 := by rw [← hvf]; exact valF_len HLF.out _
    rw [hvf] at hF HVI
    have HEQ := Lib.hid (str_eq vf x.vl)
    have HBG := Lib.hid (fun W => begins_any vf x.vl W)
    have HBI := Lib.hid (fun i W => begins_any (vf.drop i) x.vl W)
    have HCT := Lib.hid (contains_upto vf x.vl)
    have HAN := Lib.hid (any_next vf x.vl)
    obtain ⟨xv, hxv⟩ : ∃ z, x.vl = z := ⟨_, rfl⟩
    rw [hxv] at hF HEQ HBG HBI HCT HAN c2
    have HX3 := Lib.hid (mkS_ext vf)
    have hvs := mkS_size vf
    obtain ⟨K, hK⟩ : ∃ z, x.kd = z := ⟨_, rfl⟩
    obtain ⟨Sn, hSn⟩ : ∃ z, mkS x.nm = z := ⟨_, rfl⟩
    obtain ⟨V, hV⟩ : ∃ z, mkS xv = z := ⟨_, rfl⟩
    obtain ⟨VF, hVF⟩ : ∃ z, mkS vf = z := ⟨_, rfl⟩
    rw [hSn, hVF] at HVI
    rw [hVF, hV] at HEQ HBG
    rw [hV] at HBI
    rw [hVF] at HX3 hvs
    rw [hK] at c0 hF o1 o2
    rw [hSn] at c1
    rw [hV] at c2
    obtain ⟨vn, hvn⟩ : ∃ z, VF.size = z := ⟨_, rfl⟩
    rw [hvn] at hvs
    have HF := Lib.hid hF
    have HVN := Lib.hid hvs
    have hvn40 : vn ≤ 40 := by omega
    clear hck hx hF hl1 hl2 hl3 hl4 hK hSn hV hVF hxv hvf o3 o4 hvs
    go_upto_region 4 with (fail)
    obtain ⟨wA, hwA⟩ : ∃ wA, wA = wB.alloc (Obj.cells #[.int .i64 K, .string Sn, .string V] 102) := ⟨_, rfl⟩
    have hbox : wA.heap[wB.heap.size]? = some (.cells #[.int .i64 K, .string Sn, .string V] 102 (0, 0)) := by rw [hwA]; exact heap_alloc_new wB _
    have hbA : Below w.heap.size w wA := by rw [hwA]; exact hbel.alloc hsz _
    rw [← hwA]
    obtain ⟨⟨d0, d1, d2⟩, -⟩ := bx3 hbox
    have HC := Lib.hid (HVI.out wA hbA)
    have HBA := Lib.hid hbA
    have hsG : wB.heap.size < wA.heap.size := (Array.getElem?_eq_some_iff.1 hbox).1
    generalize wB.heap.size = bx at *
    clear hwA hbA c0 c1 c2
    go_upto_region 5 with (go_at_call 70; refine HC.out.mono ?_; rintro e w3 ⟨rfl, hb3⟩; have hbox3 := (hb3.block bx hsG).trans hbox; have HB3 := Lib.hid (HBA.out.trans (hb3.mono HBA.out.size)); clear hb3 d0 d1 d2; obtain ⟨⟨d0, d1, d2⟩, -⟩ := bx3 hbox3)
    cases F with
    | true =>
      have HA2 := Lib.hid (fits_yes HA.out HX.out HFF.out)
      by_cases k1 : K = 1
      · subst k1
        have hf := HF.out
        rw [if_pos rfl] at hf
        have heq := HEQ.out
        rw [hf] at heq
        clear hf
        go_wp2_with fail
        go_roundw
        case rel => exact ⟨k + 1, by omega, by go_num, HA2, HB3.out⟩
        case measure => simp [intOf]; omega
      have b1 : (K == 1) = false := beq_eq_false_iff_ne.2 k1
      by_cases k2 : K = 2
      · subst k2
        have hf := HF.out
        rw [if_neg (by decide), if_pos rfl] at hf
        have heq := HEQ.out
        rw [show decide (vf = xv) = false by revert hf; cases decide (vf = xv) <;> simp] at heq
        clear hf k1
        go_wp2_with fail
        go_roundw
        case rel => exact ⟨k + 1, by omega, by go_num, HA2, HB3.out⟩
        case measure => simp [intOf]; omega
      have b2 : (K == 2) = false := beq_eq_false_iff_ne.2 k2
      by_cases k3 : K = 3
      · subst k3
        have hf := HF.out
        rw [if_neg (by decide), if_neg (by decide), if_pos rfl] at hf
        rw [hf] at HBG
        clear hf k1 k2
        go_wp2_with (go_at_call 71; refine (HBG.out _).mono ?_; rintro e w4 ⟨rfl, rfl⟩)
        go_roundw
        case rel => exact ⟨k + 1, by omega, by go_num, HA2, HB3.out⟩
        case measure => simp [intOf]; omega
      have b3 : (K == 3) = false := beq_eq_false_iff_ne.2 k3
      have hf := HF.out
      rw [if_neg k1, if_neg k2, if_neg k3, HCT.out, HVN.out.symm] at hf
      have HFA : Hid (anyAt vf xv (vn + 1) = true) := Lib.hid hf
      have HBX3 := Lib.hid hbox3
      clear hf k1 k2 k3 hbox3
      go_wp2_with fail
      clear d0 d1 d2
      go_loopw [8, 25] (fun u y wx => ∃ j : Nat, j ≤ vn + 1 ∧ y = .int .i64 j ∧ u = .bool (anyAt vf xv j) ∧ Hid (wx.heap[bx]? = some (.cells #[.int .i64 K, .string Sn, .string V] 102 (0, 0))) ∧ Hid (Below w.heap.size w wx)) (fun _ y _ => vn + 1 - (intOf y).toNat)
      case atStart => exact ⟨0, by omega, rfl, rfl, HBX3, HB3⟩
      case round =>
        obtain ⟨j, hj, rfl, rfl, HBJ, HBW⟩ := hrel
        obtain ⟨⟨d0, d1, d2⟩, -⟩ := bx3 HBJ.out
        by_cases hjl : j < vn + 1
        case neg =>
          obtain rfl : j = vn + 1 := by omega
          rw [HFA.out]
          have hji : ¬ ((vn : Int) + 1 < (vn : Int) + 1) := by omega
          go_wp2_with fail
          refine ⟨⟨k + 1, by omega, by go_num, HA2, HBW.out⟩, ?_⟩
          simp [intOf]
          omega
        have hjv : (j : Int) ≤ (vn : Int) := by omega
        have hjn : (j : Int) < (vn : Int) + 1 := by omega
        have HNX := Lib.hid (HAN.out j)
        obtain ⟨A, hA⟩ : ∃ A, anyAt vf xv j = A := ⟨_, rfl⟩
        have HAJ := Lib.hid hA
        rw [hA]
        clear hA
        cases A with
        | true =>
          have HU : Hid (anyAt vf xv (j + 1) = true) := Lib.hid (by
            have h1 := HNX.out
            have h2 := HAJ.out
            unfold anyAt at h2 ⊢
            rw [h1, h2]
            rfl)
          go_wp2_with fail
          go_quiet (fail)
          go_wp2_with fail
          go_roundw
          case rel => exact ⟨j + 1, by omega, by go_num, by rw [HU.out], HBJ, Lib.hid (below_drewN HBW.out _)⟩
          case measure => simp [intOf]; omega
        | false =>
          have hexj : VF.extract j vn = mkS (vf.drop j) := by rw [HX3.out, List.take_of_length_le (by rw [List.length_drop, HVN.out]; exact Nat.le_refl _)]
          have HBJI := Lib.hid (HBI.out j)
          obtain ⟨PC, hPC⟩ : ∃ z, mkS (vf.drop j) = z := ⟨_, rfl⟩
          rw [hPC] at hexj HBJI
          obtain ⟨C, hC⟩ : ∃ C, xv.isPrefixOf (vf.drop j) = C := ⟨_, rfl⟩
          rw [hC] at HBJI
          have HU : Hid (anyAt vf xv (j + 1) = C) := Lib.hid (by
            have h1 := HNX.out
            have h2 := HAJ.out
            unfold anyAt at h2 ⊢
            rw [h1, h2, hC]
            rfl)
          clear hPC hC
          go_wp2_with fail
          go_quiet ((go_at_call 71; refine Calls.quiet_of_same (HBJI.out _)))
          go_wp2_with fail
          go_roundw
          case rel => exact ⟨j + 1, by omega, by go_num, by rw [HU.out], HBJ, Lib.hid (below_drewN HBW.out _)⟩
          case measure => simp [intOf]; omega
    | false =>
      have HRF : Hid (R = false) := Lib.hid (by rw [← HR.out]; exact fits_no HX.out HFF.out)
      by_cases k1 : K = 1
      · subst k1
        have hf := HF.out
        rw [if_pos rfl] at hf
        have heq := HEQ.out
        rw [hf] at heq
        clear hf
        go_wp2_with fail
        go_ret
        rw [HRF.out]
        exact ⟨rfl, HB3.out⟩
      have b1 : (K == 1) = false := beq_eq_false_iff_ne.2 k1
      by_cases k2 : K = 2
      · subst k2
        have hf := HF.out
        rw [if_neg (by decide), if_pos rfl] at hf
        have heq := HEQ.out
        rw [show decide (vf = xv) = true by revert hf; cases decide (vf = xv) <;> simp] at heq
        clear hf k1
        go_wp2_with fail
        go_ret
        rw [HRF.out]
        exact ⟨rfl, HB3.out⟩
      have b2 : (K == 2) = false := beq_eq_false_iff_ne.2 k2
      by_cases k3 : K = 3
      · subst k3
        have hf := HF.out
        rw [if_neg (by decide), if_neg (by decide), if_pos rfl] at hf
        rw [hf] at HBG
        clear hf k1 k2
        go_wp2_with (go_at_call 71; refine (HBG.out _).mono ?_; rintro e w4 ⟨rfl, rfl⟩)
        go_ret
        rw [HRF.out]
        exact ⟨rfl, HB3.out⟩
      have b3 : (K == 3) = false := beq_eq_false_iff_ne.2 k3
      have hf := HF.out
      rw [if_neg k1, if_neg k2, if_neg k3, HCT.out, HVN.out.symm] at hf
      have HFA : Hid (anyAt vf xv (vn + 1) = false) := Lib.hid hf
      have HBX3 := Lib.hid hbox3
      clear hf k1 k2 k3 hbox3
      go_wp2_with fail
      clear d0 d1 d2
      go_loopw [8, 25] (fun u y wx => ∃ j : Nat, j ≤ vn + 1 ∧ y = .int .i64 j ∧ u = .bool (anyAt vf xv j) ∧ Hid (wx.heap[bx]? = some (.cells #[.int .i64 K, .string Sn, .string V] 102 (0, 0))) ∧ Hid (Below w.heap.size w wx)) (fun _ y _ => vn + 1 - (intOf y).toNat)
      case atStart => exact ⟨0, by omega, rfl, rfl, HBX3, HB3⟩
      case round =>
        obtain ⟨j, hj, rfl, rfl, HBJ, HBW⟩ := hrel
        obtain ⟨⟨d0, d1, d2⟩, -⟩ := bx3 HBJ.out
        by_cases hjl : j < vn + 1
        case neg =>
          obtain rfl : j = vn + 1 := by omega
          rw [HFA.out]
          have hji : ¬ ((vn : Int) + 1 < (vn : Int) + 1) := by omega
          go_wp2_with fail
          go_ret
          rw [HRF.out]
          exact ⟨rfl, HBW.out⟩
        have hjv : (j : Int) ≤ (vn : Int) := by omega
        have hjn : (j : Int) < (vn : Int) + 1 := by omega
        have HNX := Lib.hid (HAN.out j)
        obtain ⟨A, hA⟩ : ∃ A, anyAt vf xv j = A := ⟨_, rfl⟩
        have HAJ := Lib.hid hA
        rw [hA]
        clear hA
        cases A with
        | true =>
          have HU : Hid (anyAt vf xv (j + 1) = true) := Lib.hid (by
            have h1 := HNX.out
            have h2 := HAJ.out
            unfold anyAt at h2 ⊢
            rw [h1, h2]
            rfl)
          go_wp2_with fail
          go_quiet (fail)
          go_wp2_with fail
          go_roundw
          case rel => exact ⟨j + 1, by omega, by go_num, by rw [HU.out], HBJ, Lib.hid (below_drewN HBW.out _)⟩
          case measure => simp [intOf]; omega
        | false =>
          have hexj : VF.extract j vn = mkS (vf.drop j) := by rw [HX3.out, List.take_of_length_le (by rw [List.length_drop, HVN.out]; exact Nat.le_refl _)]
          have HBJI := Lib.hid (HBI.out j)
          obtain ⟨PC, hPC⟩ : ∃ z, mkS (vf.drop j) = z := ⟨_, rfl⟩
          rw [hPC] at hexj HBJI
          obtain ⟨C, hC⟩ : ∃ C, xv.isPrefixOf (vf.drop j) = C := ⟨_, rfl⟩
          rw [hC] at HBJI
          have HU : Hid (anyAt vf xv (j + 1) = C) := Lib.hid (by
            have h1 := HNX.out
            have h2 := HAJ.out
            unfold anyAt at h2 ⊢
            rw [h1, h2, hC]
            rfl)
          clear hPC hC
          go_wp2_with fail
          go_quiet ((go_at_call 71; refine Calls.quiet_of_same (HBJI.out _)))
          go_wp2_with fail
          go_roundw
          case rel => exact ⟨j + 1, by omega, by go_num, by rw [HU.out], HBJ, Lib.hid (below_drewN HBW.out _)⟩
          case measure => simp [intOf]; omega
end Go.Proofs.Ytlfhcjhbnakamaa.Lab
