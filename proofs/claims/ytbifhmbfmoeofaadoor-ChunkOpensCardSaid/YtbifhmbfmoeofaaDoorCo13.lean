/-
  The walk of Opened.
-/
import Derived.Test.YtbifhmbfmoeofaaDoorCo3
import Derived.Test.YtbifhmbfmoeofaaDoorCo5
import Derived.Test.YtbifhmbfmoeofaaDoorCo12
import Derived.ChangeKeysEq
import Derived.BigQuiet
import Derived.Test.YtbifhmbfmoeofaaDoorRows
import Derived.IntWalk
import Derived.ProofKit
import Derived.OpenShut
import Derived.Lib.LaidTab
import Derived.Test.YtbifhmbfmoeofaaDoorCards
import Derived.Test.YtbifhmbfmoeofaaDoorTie
import Derived.Deep.DeepHandedRow
namespace Go.Proofs.YtbifhmbfmoeofaaDoor.Opn
open Go.RowKit Go.Gh Go.Proofs.YtbifhmbfmoeofaaDoor.Bits Go.Proofs.YtbifhmbfmoeofaaDoor.Delta Go.Proofs.YtbifhmbfmoeofaaDoor.Sam Go.Proofs.YtbifhmbfmoeofaaDoor.Smp Go.Proofs.YtbifhmbfmoeofaaDoor.Seal
set_option linter.unusedVariables false
/-- x[lo:]. -/
theorem wpList_from {P : Program} {ops : Array Oper} {rest : List Oper} {o : Oper} {a : Act} {Q : Exit → Act → World → Prop} {W W0 : World} {t e : TypeId} {size bytes n : Nat} {x l : Operand} {v : Value} {xs : List Value} (L : Nat) (el : Elem P t e size bytes) (hgd : o.guard = none)
    (ho : o.op = .slice t x (some l) none none) (hx : a.eval x = v) (hl : ∃ k, a.eval l = .int k L) (hS : Sl W0 size v n xs) (h1 : L ≤ n) (hk : ∀ ao c, Sl W0 size (.slice ao (n - L) c) (n - L) ((xs.drop (L * size)).take ((n - L) * size)) → wpList P ops Q rest (a.put o.dst (.slice ao (n - L) c)) W) : wpList P ops Q (o :: rest) a W := by
  obtain ⟨ao, cap, rfl, g2, g3, g4, g5, g6⟩ := hS
  have hS : Sl W0 size (.slice ao n cap) n xs := ⟨ao, cap, rfl, g2, g3, g4, g5, g6⟩
  obtain ⟨e1, e2⟩ := elem_eq el
  obtain ⟨kl, hl⟩ := hl
  refine wpList_run hgd (exec_slice (L := L) (H := n) el ho hx ?_) ?_
  · simp only [Option.map_some, Option.map_none, hl]
    have := run_slice_l W t ao n cap e1 kl (L : Int) (by omega) (by omega)
    simpa using this
  · exact hk _ _ (sl_sliced hS h1 (Nat.le_refl _))
theorem bytes_cut {w : World} {v : Value} {l : List Int} {L m : Nat} (h : Sl w 1 v m (((l.map (Value.int .u8)).drop (L * 1)).take (m * 1))) : Sl w 1 v m (((l.drop L).take m).map (Value.int .u8)) := by
  rw [Nat.mul_one, Nat.mul_one, ← List.map_drop, ← List.map_take] at h
  exact h
theorem infoStr : (Tryd.prog.info? 9).map (fun i => (i.zero, i.size, i.bytes)) = some (some (.string ByteArray.empty), 1, 16) := by kernel_rfl
theorem elStr : Elem Tryd.prog 70 9 1 16 := elem_of Tryd.underlying70 infoStr rfl (by decide)
theorem step_none {r : List Int} (h : partF r = none) : stepF r = none := by unfold stepF; rw [h]
theorem step_bad {r x r' : List Int} {n : Nat} (h : partF r = some (x, n, r')) (h2 : ¬ okB x n) : stepF r = none := by
  unfold stepF
  rw [h]
  simp only [h2, if_false]
theorem step_some {r x r' : List Int} {n : Nat} (h : partF r = some (x, n, r')) (h2 : okB x n) : stepF r = some (unpack x n, r') := by
  unfold stepF
  rw [h]
  simp only [h2, if_true]
theorem chain_step {b r r' : List Int} {j : Nat} {ss : List (List Bool)} {s : List Bool} (h : chainF b j = some (ss, r)) (h2 : stepF r = some (s, r')) : chainF b (j + 1) = some (ss ++ [s], r') := by
  rw [chainF, h]
  simp only [h2]
theorem chain_one {b r : List Int} {ss : List (List Bool)} (h : chainF b 1 = some (ss, r)) : ∃ s, ss = [s] ∧ stepF b = some (s, r) := by
  rw [chainF, chainF] at h
  simp only at h
  split at h
  · exact absurd h (by simp)
  · rename_i s r' hs
    have := Option.some.inj h
    have e1 : [] ++ [s] = ss := congrArg Prod.fst this
    have e2 : r' = r := congrArg Prod.snd this
    exact ⟨s, by rw [← e1]; rfl, by rw [hs, e2]⟩
theorem chain_two {b r : List Int} {ss : List (List Bool)} (h : chainF b 2 = some (ss, r)) : ∃ s1 r1 s2, ss = [s1, s2] ∧ stepF b = some (s1, r1) ∧ stepF r1 = some (s2, r) := by
  rw [chainF] at h
  split at h
  · exact absurd h (by simp)
  · rename_i ss1 r1 h1
    obtain ⟨s1, rfl, hs1⟩ := chain_one h1
    split at h
    · exact absurd h (by simp)
    · rename_i s r' hs
      have := Option.some.inj h
      have e1 : [s1] ++ [s] = ss := congrArg Prod.fst this
      have e2 : r' = r := congrArg Prod.snd this
      exact ⟨s1, r1, s, by rw [← e1]; rfl, hs1, by rw [hs, e2]⟩
theorem chain_fail {b r : List Int} {j : Nat} {ss : List (List Bool)} (hj : j < 2) (h : chainF b j = some (ss, r)) (h2 : stepF r = none) : parsed b = none := by
  rcases (show j = 0 ∨ j = 1 by omega) with rfl | rfl
  · have e : b = r := congrArg Prod.snd (Option.some.inj h)
    subst e
    unfold parsed
    rw [h2]
  · obtain ⟨s, _, hs⟩ := chain_one h
    unfold parsed
    rw [hs]
    simp only [h2]
open Classical in
theorem parsed_two {b r1 r2 : List Int} {s1 s2 : List Bool} (h : stepF b = some (s1, r1)) (h2 : stepF r1 = some (s2, r2)) :
    parsed b = if r2 = [] ∧ okI s1 ∧ okXI s2 ∧ (unpI s1).1.length = (unxI s2).1.length then some (zipR (unpI s1).1 (unxI s2).1) else none := by
  unfold parsed
  rw [h]
  simp only [h2]
theorem sbits_app (ss : List (List Bool)) (s : List Bool) : (ss.map fun s => Value.string (sbits s)) ++ [Value.string (sbits s)] = (ss ++ [s]).map fun s => Value.string (sbits s) := by rw [List.map_append]; rfl
def OdPost (w : World) (b : List Int) (e : Ending) (w' : World) : Prop :=
  Below w.heap.size w w' ∧ ((∃ out v n, parsed b = some out ∧ e = .returned (.tuple #[v, .bool (decide (sampF out = 0))]) ∧ Sl w' 2 v n (rowCells out) ∧ out.length = n ∧ Rows64 2 out ∧ n ≤ 1000) ∨ (parsed b = none ∧ e = .returned (.tuple #[.slice none 0 0, .bool false])))
theorem od_bad {w w' : World} {b : List Int} (hb : Below w.heap.size w w') (h : parsed b = none) : OdPost w b (.returned (.tuple #[.slice none 0 0, .bool false])) w' := ⟨hb, Or.inr ⟨h, rfl⟩⟩
set_option maxHeartbeats 8000000 in
set_option maxRecDepth 100000 in
theorem opened_any (v : Value) (m : Nat) (b : List Int) (w : World) (hv : Sl w 1 v m (b.map (Value.int .u8))) (hl : b.length = m) (hb : Bytes b) (hm : m ≤ 400) :
    Calls Tryd.prog 15 #[v] w (OdPost w b) := by
  obtain ⟨ao, c, rfl, hmc, hcc, _⟩ := hv.shape
  have HV := Lib.hid hv
  have HB := Lib.hid hb
  have HL := Lib.hid hl
  clear hv hb hl
  go_enter Tryd.func15, Tryd.ntmps15
  go_wp2_with fail
  go_loopw [4, 5, 17] (fun u rv i wx => ∃ (j lr : Nat) (ss : List (List Bool)) (r : List Int), j ≤ 2 ∧ i = .int .i64 j ∧ lr ≤ m ∧ Hid (chainF b j = some (ss, r)) ∧ Hid (ss.length = j) ∧ Hid (∀ s ∈ ss, s.length ≤ 4000) ∧ Hid (r.length = lr) ∧ Hid (Bytes r) ∧ Hid (Sl w 1 rv lr (r.map (Value.int .u8))) ∧ Hid (wx.ownsRow w.heap.size 9 1 u j (ss.map fun s => Value.string (sbits s))) ∧ Hid (Below w.heap.size w wx)) (fun _ _ i _ => 2 - (intOf i).toNat)
  case atStart => exact ⟨0, m, [], b, by omega, rfl, Nat.le_refl _, rfl, rfl, Lib.hid (by intro s hs; simp at hs), HL, HB, HV, Lib.hid (World.ownsRow_nil _ _ _ _), Lib.hid (Below.refl _ _)⟩
  case round =>
    obtain ⟨j, lr, ss, r, hj, rfl, hlr, HCH, HSS, HS4, HLR, HBR, HRS, HO, HBW⟩ := hrel
    by_cases hlt : j < 2
    · obtain ⟨ro, rc, rfl, hrc, hrc2, _⟩ := HRS.out.shape
      obtain ⟨uo, uc, rfl, _⟩ := own_shape HO.out
      have hsz := HBW.out.size
      have HRW := Lib.hid (HRS.out.below HBW.out)
      obtain ⟨T, hT⟩ : ∃ T, takeS 0 0 r = T := ⟨_, rfl⟩
      obtain ⟨n, k, e⟩ := T
      have HT := Lib.hid hT
      have HTA : Hid (Calls Tryd.prog 34 #[.slice ro lr rc] wr fun e' w' => e' = ret3 (n, k, e) ∧ wr = w') := Lib.hid (by rw [← hT]; exact numof_any _ lr r wr HRW.out (u8_of_bytes HBR.out))
      clear hT
      go_wp2_with fail
      refine HTA.out.mono ?_
      rintro e' w1 ⟨rfl, rfl⟩
      unfold ret3
      by_cases he : e = 0
      case neg =>
        have HN := Lib.hid (chain_fail hlt HCH.out (step_none (part_bad HT.out (Or.inl he))))
        have t1 : (e != 0) = true := by rw [bne_iff_ne]; exact he
        clear he
        go_wp2_with fail
        go_ret2
        exact od_bad HBW.out HN.out
      subst he
      obtain ⟨hn0, hk1, hkm⟩ := take_bd HBR.out HT.out
      rw [HLR.out] at hkm
      obtain ⟨n', rfl⟩ : ∃ n' : Nat, n = n' := ⟨n.toNat, by omega⟩
      obtain ⟨k', rfl⟩ : ∃ k' : Nat, k = k' := ⟨k.toNat, by omega⟩
      obtain ⟨q, hq⟩ : ∃ q, (n' + 7) / 8 = q := ⟨_, rfl⟩
      by_cases hbig : 80000 < n'
      · have HN := Lib.hid (chain_fail hlt HCH.out (step_none (part_bad HT.out (Or.inr (by rw [HLR.out]; omega)))))
        clear hq
        go_wp2_with fail
        go_ret2
        exact od_bad HBW.out HN.out
      have hw3 : IntKind.i64.wrap (n' : Int) = (n' : Int) := IntWalk.i64_in _ (by omega)
      have hw4 : IntKind.i64.wrap ((n' : Int) + 7) = (n' : Int) + 7 := IntWalk.i64_in _ (by omega)
      have hw5 : IntKind.i64.wrap (((n' : Int) + 7) / 8) = (q : Int) := by rw [IntWalk.i64_in _ (by omega)]; omega
      have hqi : ((n' : Int) + 7) / 8 = (q : Int) := by omega
      by_cases hend : lr < k' + q
      · have HN := Lib.hid (chain_fail hlt HCH.out (step_none (part_bad HT.out (Or.inr (by rw [HLR.out]; omega)))))
        clear hq
        go_wp2_with fail
        go_ret2
        exact od_bad HBW.out HN.out
      obtain ⟨P, hP⟩ : ∃ P, k' + q = P := ⟨_, rfl⟩
      have hPi : (k' : Int) + (q : Int) = (P : Int) := by omega
      have hPl : P ≤ lr := by omega
      have hkP : k' ≤ P := by omega
      have hp := part_ok HT.out hq (by rw [HLR.out]; omega)
      rw [hP] at hp
      have HPA := Lib.hid hp
      have HPE : Hid (P - k' = q) := Lib.hid (by omega)
      have HPP := Lib.hid hP
      have hqn : n' ≤ 8 * q := by omega
      have hq50 : q ≤ 400 := by omega
      clear hp hq hP
      go_wp2_with (with_reducible refine wpList_cut (o := ⟨some 50, _, _, _, _, _⟩) k' P elU8 rfl rfl rfl ⟨_, rfl⟩ ⟨_, rfl⟩ HRW.out hkP hPl ?_; intro xo xc hs4)
      have hs5 := bytes_cut hs4
      rw [HPE.out] at hs5 ⊢
      have HXS := Lib.hid hs5
      obtain ⟨x, hx⟩ : ∃ x, (r.drop k').take q = x := ⟨_, rfl⟩
      have HXL : Hid (x.length = q) := Lib.hid (by rw [← hx, List.length_take, List.length_drop, HLR.out]; have := HPP.out; omega)
      have HBX : Hid (Bytes x) := Lib.hid (by rw [← hx]; exact bytes_take (bytes_drop HBR.out _) _)
      rw [hx] at HXS HPA
      have hba : Below wr.heap.size wr (wr.alloc (.cells #[.slice xo q xc, .int .i64 n'] 39)) := (Below.refl _ _).alloc (Nat.le_refl _) _
      have hA := heap_alloc_new wr (.cells #[.slice xo q xc, .int .i64 n'] 39)
      have HBA := Lib.hid (HBW.out.trans (hba.mono hsz))
      have HOA := Lib.hid (own_below HO.out hba)
      have HXA := Lib.hid (HXS.out.below hba)
      obtain ⟨bA, hbA⟩ : ∃ q, wr.heap.size = q := ⟨_, rfl⟩
      rw [hbA] at hA
      have hshx := HXS.out.shape
      clear hs4 hs5 hx hba HO
      go_upto_region 9 with (fail)
      have hXV : BitsV (wr.alloc (.cells #[.slice xo q xc, .int .i64 n'] 39)) (.agg #[.slice xo q xc, .int .i64 n']) x n' := ⟨_, q, rfl, HXA.out, HBX.out, u8_of_bytes HBX.out, by omega, by omega, by omega⟩
      have HXV := Lib.hid hXV
      clear hXV
      simp only [hbA]
      generalize wr.alloc (.cells #[.slice xo q xc, .int .i64 n'] 39) = wA at *
      have hltA := lt_of_some' hA
      refine (fault_any _ x n' _ HXV.out).mono ?_
      by_cases hok : okB x n'
      case neg =>
        have HF : Hid (faultB x n' = 4) := Lib.hid (if_neg hok)
        have HN := Lib.hid (chain_fail hlt HCH.out (step_bad HPA.out hok))
        clear hok
        rw [HF.out]
        rintro e2 w2 ⟨rfl, hb2⟩
        have HB2 := Lib.hid (HBA.out.trans (hb2.mono HBA.out.size))
        clear hb2
        go_wp2_with fail
        go_ret2
        exact od_bad HB2.out HN.out
      have HF : Hid (faultB x n' = 0) := Lib.hid (if_pos hok)
      have HST := Lib.hid (step_some HPA.out hok)
      have HOK := Lib.hid hok
      clear hok
      rw [HF.out]
      rintro e2 w2 ⟨rfl, hb2⟩
      have hA2 := (hb2.block bA hltA).trans hA
      have HB2 := Lib.hid (HBA.out.trans (hb2.mono HBA.out.size))
      have HO2 := Lib.hid (own_below HOA.out hb2)
      have HXV2 := Lib.hid (bv_below HXV.out hb2)
      have hltA2 := lt_of_some' hA2
      obtain ⟨⟨x0, x1⟩, -⟩ := box2 hA2
      clear hb2 hA
      go_wp2_with fail
      refine (unpacked_any _ x n' _ HXV2.out HOK.out (by omega)).mono ?_
      rintro e3 w3 ⟨rfl, hb3⟩
      obtain ⟨s, hs⟩ : ∃ s, unpack x n' = s := ⟨_, rfl⟩
      have HSL : Hid (s.length ≤ 4000) := Lib.hid (by rw [← hs]; unfold unpack; simp; omega)
      rw [hs] at HST ⊢
      have hown := own_below HO2.out hb3
      have hbel := HB2.out.trans (hb3.mono HB2.out.size)
      have hsz3 := hbel.size
      have HA3 := Lib.hid ((hb3.block bA hltA2).trans hA2)
      clear x0 x1 hA2 hb3 hs
      go_wp2_with (at_builtin; refine append1 [Value.string (sbits s)] elStr rfl _ _ rfl hown hbel hsz3 rfl rfl rfl (by intro y hy; simp at hy; subst hy; rfl) ?c1 ?c2 ?_)
      case c1 => omega
      case c2 => omega
      intro v' w4 hown4 hb4 hg4
      have hne := own_block_ne hown HA3.out (by decide)
      have HA4 := Lib.hid (grown_block2 hg4 hne HA3.out)
      have HO4 := Lib.hid hown4
      have HB4 := Lib.hid hb4
      obtain ⟨⟨x0, x1⟩, -⟩ := box2 HA4.out
      have hqq : IntKind.i64.wrap ((k' : Int) + (q : Int)) = (P : Int) := by rw [IntWalk.i64_in _ (by omega)]; omega
      clear hown hbel hown4 hb4 hg4 hne
      go_wp2_with (with_reducible refine wpList_from (o := ⟨some 68, _, _, _, _, _⟩) P elU8 rfl rfl rfl ⟨_, rfl⟩ HRS.out hPl ?_; intro ro2 rc2 hs6)
      have hs7 := bytes_cut hs6
      rw [List.take_of_length_le (by rw [List.length_drop, HLR.out]; exact Nat.le_refl _)] at hs7
      have hd4 : ∀ s' ∈ ss ++ [s], s'.length ≤ 4000 := by
        intro s' hs'
        rcases List.mem_append.1 hs' with h | h
        · exact HS4.out s' h
        · simp at h; subst h; exact HSL.out
      have hown5 : w4.ownsRow w.heap.size 9 1 v' (j + 1) ((ss ++ [s]).map fun s => Value.string (sbits s)) := by rw [← sbits_app]; exact HO4.out
      go_roundw
      case rel => exact ⟨j + 1, lr - P, ss ++ [s], r.drop P, by omega, by go_num, by omega, Lib.hid (chain_step HCH.out HST.out), Lib.hid (by rw [List.length_append, HSS.out]; rfl), Lib.hid hd4, Lib.hid (by rw [List.length_drop, HLR.out]), Lib.hid (bytes_drop HBR.out _), Lib.hid hs7, Lib.hid hown5, HB4⟩
      case measure => simp [intOf]; omega
    · obtain rfl : j = 2 := by omega
      obtain ⟨s1, r1, s2, rfl, hst1, hst2⟩ := chain_two HCH.out
      have HPT := Lib.hid (parsed_two hst1 hst2)
      have hl1 : s1.length ≤ 4000 := HS4.out s1 (by simp)
      have hl2 : s2.length ≤ 4000 := HS4.out s2 (by simp)
      obtain ⟨ro, rc, rfl, hrc, hrc2, _⟩ := HRS.out.shape
      obtain ⟨g, cap, rfl, hg1, hg2, hg3, hg4, hcell⟩ := own_some HO.out (by decide)
      have c0 := hcell 0 _ rfl
      have c1 := hcell 1 _ rfl
      have hsz := HBW.out.size
      have hneg : ¬ ((2 : Int) < 2) := by decide
      clear hst1 hst2 hcell
      go_wp2_with fail
      refine (Delta.timesof_any s1 hl1 _).mono ?_
      rintro e w2 ⟨tv, tn, rfl, htv, htn, hb2⟩
      obtain ⟨to', tc, rfl, htc, htc2, _⟩ := htv.shape
      have HTV := Lib.hid htv
      have HTN := Lib.hid htn
      have HB2 := Lib.hid (HBW.out.trans (hb2.mono hsz))
      have d1 := (hb2.cell (p := ⟨g, 1, none⟩) hg2).trans c1
      have d0 := (hb2.cell (p := ⟨g, 0, none⟩) hg2).trans c0
      clear htv htn hb2 c0 c1
      obtain ⟨D1, hD1⟩ : ∃ D, decide (okR s1) = D := ⟨_, rfl⟩
      have HD1 := Lib.hid hD1
      rw [hD1]
      clear hD1
      go_wp2_with fail
      refine (Xor.measuresof_any s2 hl2 _).mono ?_
      rintro e w3 ⟨hb3, ⟨o, mv, mn, hx1, hx2, hx3, rfl, hmv, hmn⟩ | ⟨hno, mv, rfl⟩⟩
      case inr =>
        have HB3 := Lib.hid (HB2.out.trans (hb3.mono HB2.out.size))
        have HN : Hid (parsed b = none) := Lib.hid (by
          rw [HPT.out, if_neg]
          rintro ⟨_, _, h, _⟩
          exact hno ⟨(unxI s2).1, okXI_R h, h.2.1, h.2.2⟩)
        clear hb3 hno
        cases D1
        all_goals
          go_wp2_with fail
          go_ret2
          exact od_bad HB3.out HN.out
      obtain ⟨mo, mc, rfl, hmc1, hmc2, _⟩ := hmv.shape
      have HMV := Lib.hid hmv
      have HMN := Lib.hid hmn
      obtain ⟨hx4, hx5⟩ := okXR_I hx1 hx2 hx3
      have HX4 := Lib.hid hx4
      have HX5 := Lib.hid hx5
      have HB3 := Lib.hid (HB2.out.trans (hb3.mono HB2.out.size))
      have HTV3 := Lib.hid (HTV.out.below hb3)
      clear hb3 hx1 hx2 hx3 hx4 hx5 hmv hmn d0 d1
      cases D1 with
      | false =>
        have HN : Hid (parsed b = none) := Lib.hid (by
          rw [HPT.out, if_neg]
          rintro ⟨_, h, _⟩
          exact of_decide_eq_false HD1.out (okI_R h).1)
        go_wp2_with fail
        go_ret2
        exact od_bad HB3.out HN.out
      | true =>
        have HOR := Lib.hid (of_decide_eq_true HD1.out)
        have HOI := Lib.hid (okR_I HOR.out)
        have HUU := Lib.hid (okI_R HOI.out).2
        by_cases hlen : tn = mn
        case neg =>
          have HN : Hid (parsed b = none) := Lib.hid (by
            rw [HPT.out, if_neg]
            rintro ⟨_, _, _, h⟩
            rw [← HUU.out, HTN.out, HX5.out, HMN.out] at h
            exact hlen h)
          have hne : ((tn : Int) != (mn : Int)) = true := by rw [bne_iff_ne]; omega
          go_wp2_with fail
          go_ret2
          exact od_bad HB3.out HN.out
        subst hlen
        have heq : ((tn : Int) != (tn : Int)) = false := by simp
        by_cases hz : 0 < lr
        · have HN : Hid (parsed b = none) := Lib.hid (by
            rw [HPT.out, if_neg]
            rintro ⟨h, _⟩
            rw [← HLR.out, h] at hz
            simp at hz)
          go_wp2_with fail
          go_ret2
          exact od_bad HB3.out HN.out
        obtain rfl : lr = 0 := by omega
        obtain ⟨T, hTe⟩ : ∃ T, unpR s1 = T := ⟨_, rfl⟩
        have HTI : Hid (AllI T) := Lib.hid (by rw [← hTe]; exact unpR_all _)
        have ht1000 : tn ≤ 1000 := by rw [← HTN.out]; exact HOR.out.1
        rw [hTe] at HTV3 HTN HUU
        have HPO : Hid (parsed b = some (zipR T o)) := Lib.hid (by
          rw [HPT.out, if_pos ⟨List.length_eq_zero_iff.1 HLR.out, HOI.out, HX4.out, by rw [← HUU.out, HTN.out, HX5.out, HMN.out]⟩, HX5.out, ← HUU.out])
        have hsz3 := HB3.out.size
        clear hTe
        go_wp2_with fail
        go_loopw [14, 15, 104] (fun u _ i wx => ∃ k : Nat, k ≤ tn ∧ i = .int .i64 k ∧ Hid (wx.ownsRow w3.heap.size 65 2 u k (rowCells ((zipR T o).take k))) ∧ Hid (Below w3.heap.size w3 wx)) (fun _ _ i _ => tn - (intOf i).toNat)
        case atStart => exact ⟨0, by omega, rfl, Lib.hid (World.ownsRow_nil _ _ _ _), Lib.hid (Below.refl _ _)⟩
        case round =>
          obtain ⟨k, hk, rfl, HO5, HBW5⟩ := hrel
          by_cases hlt5 : k < tn
          · obtain ⟨tb, toff, rfl, ct⟩ := HTV3.out.int (i := k) hlt5
            obtain ⟨vb, voff, rfl, cv⟩ := HMV.out.int (i := k) hlt5
            have HZ := Lib.hid (zipR_snoc T o (k := k) (by rw [HTN.out]; exact hlt5))
            obtain ⟨tz, htz⟩ : ∃ z, T.getD k 0 = z := ⟨_, rfl⟩
            obtain ⟨vz, hvz⟩ : ∃ z, o.getD k 0 = z := ⟨_, rfl⟩
            rw [htz] at ct HZ
            rw [hvz] at cv HZ
            obtain ⟨uo, uc, rfl, _⟩ := own_shape HO5.out
            have HCC : Hid (∀ wx, Below w3.heap.size w3 wx → wx.cell? ⟨tb, toff + k, none⟩ = some (.int .i64 tz) ∧ wx.cell? ⟨vb, voff + k, none⟩ = some (.int .u64 vz)) := Lib.hid (fun wx hb => ⟨(hb.cell (p := ⟨tb, toff + k, none⟩) (cell_lt ct)).trans ct, (hb.cell (p := ⟨vb, voff + k, none⟩) (cell_lt cv)).trans cv⟩)
            obtain ⟨x0, x1⟩ := HCC.out _ HBW5.out
            have hszr := HBW5.out.size
            have HOD := Lib.hid HO5.out.drew
            have HBD := Lib.hid HBW5.out.drew
            have HBDs : Hid (w3.heap.size ≤ wr.drew.heap.size) := Lib.hid HBD.out.size
            clear ct cv htz hvz HO5
            go_upto_region 22 with (fail)
            go_region_held3 (fun w' => w'.cell? ⟨tb, toff + k, none⟩ = some (.int .i64 tz) ∧ w'.cell? ⟨vb, voff + k, none⟩ = some (.int .u64 vz)) (first | (with_reducible exact ⟨x0, x1⟩) | (with_reducible exact ⟨y0, y1⟩) | go_keep) (first
              | (refine step_app1 [Value.int .i64 tz, Value.int .i64 (IntKind.i64.wrap vz)] elSmp rfl _ _ rfl HOD.out HBD.out (Nat.le_refl _) HBDs.out rfl rfl rfl (by intro q hq; simp at hq; rcases hq with rfl | rfl <;> rfl) (by omega) (by omega) ?_; intro g6 cap6 w6 hown6 hb6 _; obtain ⟨y0, y1⟩ := HCC.out _ hb6))
            have HO6 : Hid (w6.ownsRow w3.heap.size 65 2 (.slice (some ⟨g6, 0, none⟩) (k + 1) cap6) (k + 1) (rowCells ((zipR T o).take (k + 1)))) := Lib.hid (by rw [HZ.out, ← rows_snoc]; exact hown6)
            have HB6 := Lib.hid hb6
            clear hown6 hb6 y0 y1
            go_wp2_with fail
            go_roundw
            case rel => exact ⟨k + 1, by omega, by go_num, HO6, HB6⟩
            case measure => simp [intOf]; omega
          · obtain rfl : k = tn := by omega
            have hown := HO5.out
            rw [List.take_of_length_le (by rw [zipR_len, HTN.out]; exact Nat.le_refl _)] at hown
            have hZL : (zipR T o).length = k := by rw [zipR_len, HTN.out]
            have hZR : Rows64 2 (zipR T o) := zipR_rows HTI.out
            have HZS := Lib.hid (own_sl hown)
            have HZL := Lib.hid hZL
            have HZR := Lib.hid hZR
            have HBR2 := Lib.hid (HB3.out.trans (HBW5.out.mono hsz3))
            obtain ⟨uo, uc, rfl, _⟩ := own_shape hown
            obtain ⟨Z, hZ⟩ : ∃ Z, zipR T o = Z := ⟨_, rfl⟩
            rw [hZ] at HZS HZL HZR HPO
            obtain ⟨F, hF⟩ : ∃ F, sampF Z = F := ⟨_, rfl⟩
            have HF := Lib.hid hF
            have HDF : Hid ((F == 0) = decide (sampF Z = 0)) := Lib.hid (by rw [hF]; by_cases h : F = 0 <;> simp [h])
            clear hown hZL hZR hZ hF HO5
            go_wp2_with fail
            refine (samplesfault_any _ k Z _ HZS.out HZL.out HZR.out (by omega)).mono ?_
            rw [HF.out]
            rintro e w7 ⟨rfl, hb7⟩
            have HB7 := Lib.hid (HBR2.out.trans (hb7.mono HBR2.out.size))
            have HZ7 := Lib.hid (HZS.out.below hb7)
            clear hb7
            go_wp2_with fail
            go_ret2
            rw [HDF.out]
            exact ⟨HB7.out, Or.inl ⟨Z, _, k, HPO.out, rfl, HZ7.out, HZL.out, HZR.out, ht1000⟩⟩
end Go.Proofs.YtbifhmbfmoeofaaDoor.Opn
/-
  Two structs whose fields are all int64, held against each other.
-/
namespace Go.Gh
open Go.RowKit
set_option linter.unusedVariables false

/-- A struct type of k int64 fields, compared field by field. -/
def ints64 (P : Program) (t : TypeId) (k : Nat) : Bool :=
  (match P.underlying t with
  | some (.struct fs) => fs.size == k && (List.range k).all fun j => match fs[j]? with
    | some f => f.name != "_" && f.offset == j && (match P.underlying f.type with | some (.int .i64) => true | _ => false)
    | none => false
  | _ => false) && !P.stoodInHeld t && !P.eqGuardType P.depth t
theorem ints64_of {P : Program} {t : TypeId} {k : Nat} (h : ints64 P t k = true) : ∃ fs : Array Field, P.underlying t = some (.struct fs) ∧ fs.size = k ∧ P.stoodInHeld t = false ∧ P.eqGuardType P.depth t = false ∧
    ∀ (j : Nat) (f : Field), fs[j]? = some f → f.name ≠ "_" ∧ f.offset = j ∧ P.underlying f.type = some (.int .i64) := by
  unfold ints64 at h
  rw [Bool.and_eq_true, Bool.and_eq_true] at h
  obtain ⟨⟨h1, h2⟩, h3⟩ := h
  split at h1
  · rename_i fs hu
    rw [Bool.and_eq_true] at h1
    refine ⟨fs, hu, by simpa using h1.1, by simpa using h2, by simpa using h3, fun j f hj => ?_⟩
    have hk : fs.size = k := by simpa using h1.1
    have hjl : j < k := by rw [← hk]; exact (Array.getElem?_eq_some_iff.1 hj).1
    have := List.all_eq_true.1 h1.2 j (List.mem_range.2 hjl)
    rw [hj] at this
    simp only [Bool.and_eq_true] at this
    refine ⟨by simpa using this.1.1, by simpa using this.1.2, ?_⟩
    have h4 := this.2
    split at h4
    · assumption
    · simp at h4
  · simp at h1
theorem run_part_int {P : Program} {w : World} {t : TypeId} (hu : P.underlying t = some (.int .i64)) {xs : Array Value} {off : Nat} {v : Value} (hx : xs[off]? = some v) : (part t xs off).run P w = .ok v w := by
  simp [part, isAgg, run_underlying hu, hx]
theorem run_eqFields_ints {P : Program} {w : World} {d : Nat} {l m : List Int} : ∀ (fs : List Field) (j : Nat), (∀ (i : Nat) (f : Field), fs[i]? = some f → f.name ≠ "_" ∧ f.offset = j + i ∧ P.underlying f.type = some (.int .i64)) →
    l.length = j + fs.length → m.length = j + fs.length → (Op.eqFields (d + 1) (l.map (Value.int .i64)).toArray (m.map (Value.int .i64)).toArray fs).run P w = .ok (decide (l.drop j = m.drop j)) w
  | [], j, h, hl, hm => by
    simp only [List.length_nil, Nat.add_zero] at hl hm
    rw [List.drop_of_length_le (by omega), List.drop_of_length_le (by omega)]
    simp [Op.eqFields]
  | f :: fs, j, h, hl, hm => by
    obtain ⟨hn, ho, hu⟩ := h 0 f rfl
    rw [Nat.add_zero] at ho
    rw [List.length_cons] at hl hm
    have jl : j < l.length := by omega
    have jm : j < m.length := by omega
    have p1 : (part f.type (l.map (Value.int .i64)).toArray f.offset).run P w = .ok (.int .i64 l[j]) w := run_part_int hu (by rw [ho]; simp [jl])
    have p2 : (part f.type (m.map (Value.int .i64)).toArray f.offset).run P w = .ok (.int .i64 m[j]) w := run_part_int hu (by rw [ho]; simp [jm])
    have ih := run_eqFields_ints (P := P) (w := w) (d := d) (l := l) (m := m) fs (j + 1) (fun i g hg => by have := h (i + 1) g hg; rw [show j + 1 + i = j + (i + 1) from by omega]; exact this) (by omega) (by omega)
    simp only [Op.eqFields, hn, ne_eq, not_false_eq_true, if_true, Sem.run_bind, p1, p2, Result.andThen_ok, run_equalIn_int w d f.type .i64 .i64 l[j] m[j] hu]
    rw [List.drop_eq_getElem_cons jl, List.drop_eq_getElem_cons jm]
    generalize l.drop (j + 1) = A at *
    generalize m.drop (j + 1) = B at *
    by_cases he : l[j] = m[j]
    · rw [he]
      simp only [beq_self_eq_true, Bool.not_true, Bool.false_eq_true, if_false, List.cons.injEq, true_and]
      exact ih
    · have : (l[j] == m[j]) = false := by simpa using he
      simp only [this, Bool.not_false, if_true, List.cons.injEq, he, false_and, decide_false]
      rfl
theorem run_equal_ints {P : Program} {w : World} {t : TypeId} {k : Nat} (ht : ints64 P t k = true) {l m : List Int} (hl : l.length = k) (hm : m.length = k) :
    (Op.equalIn 10000 t (.agg (l.map (Value.int .i64)).toArray) (.agg (m.map (Value.int .i64)).toArray)).run P w = .ok (decide (l = m)) w := by
  obtain ⟨fs, hu, hk, hs, _, hf⟩ := ints64_of ht
  have hfo : P.fieldsOf t = fs := by unfold Program.fieldsOf; rw [hu]
  rw [show (10000 : Nat) = 9999 + 1 from rfl, run_equalIn_struct w 9999 t _ _ (by rw [hfo]; exact hu) hs, hfo]
  have := run_eqFields_ints (P := P) (w := w) (d := 9998) (l := l) (m := m) fs.toList 0 (fun i f h => by rw [Nat.zero_add]; exact hf i f (by simpa using h)) (by simp; omega) (by simp; omega)
  simpa using this
theorem exec_neq_ints {P : Program} {ρ : Operand → Value} {o : Oper} {w : World} {t t' : TypeId} {x y : Operand} {k : Nat} (ho : o.op = .binOp .neq t x y t') (ht : ints64 P t k = true) {l m : List Int} (hl : l.length = k) (hm : m.length = k)
    (hx : ρ x = .agg (l.map (Value.int .i64)).toArray) (hy : ρ y = .agg (m.map (Value.int .i64)).toArray) : (execOp ρ o).run P w = .ok (.value (.bool (!decide (l = m)))) w := by
  obtain ⟨_, _, _, _, hg, _⟩ := ints64_of ht
  unfold execOp
  rw [ho]
  simp only [Sem.run_bind, hx, hy, run_eqGuard_agg w _ _ _ _ _ _ hg, Result.andThen_ok, run_neq_struct, run_equal_ints ht hl hm]
  rfl
theorem quiet_of_run {P : Program} {o : Oper} {a : Act} {C : World → Prop} {K : Act → Prop} (v : Value) (h : ∀ w, (execOp a.eval o).run P w = .ok (.value v) w) (hk : K (a.put o.dst v)) : o.quiet P a C K :=
  ⟨v, fun w _ => by unfold Oper.quietAt; rw [h w]; exact ⟨rfl, rfl⟩, hk⟩
/-- Two lists are alike up to k. -/
def sameUp (l m : List (List Int)) (k : Nat) : Prop := ∀ i, i < k → l.getD i [] = m.getD i []
theorem sameUp_succ {l m : List (List Int)} {k : Nat} (h : sameUp l m k) (hk : l.getD k [] = m.getD k []) : sameUp l m (k + 1) := by
  intro i hi
  rcases Nat.lt_or_eq_of_le (Nat.le_of_lt_succ hi) with h' | h'
  · exact h i h'
  · rw [h']; exact hk
theorem same_all {l m : List (List Int)} (hlen : l.length = m.length) (h : sameUp l m l.length) : l = m := by
  refine List.ext_getElem hlen fun i h1 h2 => ?_
  have := h i h1
  rwa [List.getD_eq_getElem?_getD, List.getD_eq_getElem?_getD, List.getElem?_eq_getElem h1, List.getElem?_eq_getElem h2] at this
end Go.Gh
/-
  The walk of SameSamples.
-/
namespace Go.Proofs.YtbifhmbfmoeofaaDoor.SameSmp
open Go.RowKit Go.Gh
set_option linter.unusedVariables false

theorem ints_samesmp : ints64 Tryd.prog 65 2 = true := by kernel_rfl
theorem row_samesmp (r : List Int) (h : r.length = 2) : ∃ a0 a1 : Int, r = [a0, a1] := by
  match r, h with
  | [a0, a1], _ => exact ⟨a0, a1, rfl⟩
set_option maxHeartbeats 1000000 in
set_option maxRecDepth 100000 in
theorem samesmp_any (v u : Value) (n o : Nat) (l m : List (List Int)) (w : World) (hs : Sl w 2 v n (rowCells l)) (ht : Sl w 2 u o (rowCells m)) (hl : l.length = n) (hm : m.length = o) (hrl : RowsK 2 l) (hrm : RowsK 2 m) :
    Calls Tryd.prog 16 #[v, u] w fun e w' => e = .returned (.bool (decide (l = m))) ∧ Below w.heap.size w w' := by
  obtain ⟨ao, c, rfl, hnc, hc, _⟩ := hs.shape
  obtain ⟨bo, d, rfl, hod, hd, _⟩ := ht.shape
  have HL := Lib.hid hl
  have HM := Lib.hid hm
  by_cases hno : n = o
  · subst hno
    clear hl hm
    go_enter Tryd.func16, Tryd.ntmps16
    go_wp2_with fail
    go_loopw [4, 5, 13] (fun r _ i wr => ∃ k : Nat, k ≤ n ∧ i = .int .i64 k ∧ r = .bool false ∧ Below w.heap.size w wr ∧ Hid (sameUp l m k)) (fun _ _ i _ => n - (intOf i).toNat)
    case atStart => exact ⟨0, by omega, rfl, rfl, Below.refl _ _, fun i hi => by omega⟩
    case round =>
      obtain ⟨k, hk, rfl, rfl, hbr, hsame⟩ := hrel
      by_cases hlt : k < n
      · obtain ⟨b, off, rfl, hk1, hck⟩ := (hs.below hbr).rowk HL.out hrl hlt
        obtain ⟨b', off', rfl, hj1, hcj⟩ := (ht.below hbr).rowk HM.out hrm hlt
        obtain ⟨a0, a1, ha⟩ := row_samesmp _ hk1
        obtain ⟨b0, b1, hb⟩ := row_samesmp _ hj1
        rw [ha] at hck
        rw [hb] at hcj
        have HA := Lib.hid ha
        have HB := Lib.hid hb
        clear ha hb hk1 hj1
        have c0 : _ = some (Value.int .i64 a0) := hck 0 (by decide)
        have c1 : _ = some (Value.int .i64 a1) := hck 1 (by decide)
        have e0 : _ = some (Value.int .i64 b0) := hcj 0 (by decide)
        have e1 : _ = some (Value.int .i64 b1) := hcj 1 (by decide)
        rw [Nat.add_zero] at c0 e0
        clear hck hcj
        by_cases he : [a0, a1] = [b0, b1]
        · have HE := Lib.hid he
          have HN : Hid (sameUp l m (k + 1)) := sameUp_succ hsame.out (by rw [HA.out, HB.out]; exact he)
          clear he
          go_wp2_with fail
          refine wp_region_quiet_lit (by kernel_rfl) (by kernel_rfl) ?_
          repeat (go_big_quiet_step (fail))
          go_big_quiet_want
          refine quiet_of_run (.bool false) (fun w' => (exec_neq_ints (l := [a0, a1]) (m := [b0, b1]) rfl ints_samesmp rfl rfl rfl rfl).trans (by rw [decide_eq_true HE.out]; rfl)) ?_
          go_big_quiet_on
          refine wpQuiet_nil ?_
          rintro _ ⟨nq, rfl⟩
          go_wp2
          go_roundw
          case rel => exact ⟨k + 1, by omega, by go_num, rfl, below_drewN hbr _, HN⟩
          case measure => simp [intOf]; omega
        · have HE := Lib.hid he
          have HN : Hid (decide (l = m) = false) := decide_eq_false (fun h => he (by rw [← HA.out, ← HB.out, h]))
          clear he
          go_wp2_with fail
          refine wp_region_quiet_lit (by kernel_rfl) (by kernel_rfl) ?_
          repeat (go_big_quiet_step (fail))
          go_big_quiet_want
          refine quiet_of_run (.bool true) (fun w' => (exec_neq_ints (l := [a0, a1]) (m := [b0, b1]) rfl ints_samesmp rfl rfl rfl rfl).trans (by rw [decide_eq_false HE.out]; rfl)) ?_
          go_big_quiet_on
          refine wpQuiet_nil ?_
          rintro _ ⟨nq, rfl⟩
          go_wp2
          go_ret
          exact ⟨ret_bool HN.out.symm, below_drewN hbr _⟩
      · obtain rfl : k = n := by omega
        have HN : Hid (decide (l = m) = true) := decide_eq_true (same_all (by rw [HL.out, HM.out]) (by rw [HL.out]; exact hsame.out))
        go_wp2_with fail
        go_ret
        exact ⟨ret_bool HN.out.symm, hbr⟩
  · have HN : Hid (decide (l = m) = false) := decide_eq_false (fun h => hno (by rw [← hl, ← hm, h]))
    have hne : ((n : Int) != (o : Int)) = true := by rw [bne_iff_ne]; omega
    clear hl hm
    go_enter Tryd.func16, Tryd.ntmps16
    go_wp2_with fail
    go_ret
    exact ⟨ret_bool HN.out.symm, Below.refl _ _⟩
end Go.Proofs.YtbifhmbfmoeofaaDoor.SameSmp
/-
  The walk of the law ChunkOpens.
-/
namespace Go.Proofs.YtbifhmbfmoeofaaDoor.ChunkOpens
open Go.RowKit Go.Gh Go.Proofs.YtbifhmbfmoeofaaDoor.Bits Go.Proofs.YtbifhmbfmoeofaaDoor.Sam Go.Proofs.YtbifhmbfmoeofaaDoor.Smp Go.Proofs.YtbifhmbfmoeofaaDoor.Seal Go.Proofs.YtbifhmbfmoeofaaDoor.Opn
set_option linter.unusedVariables false
theorem bytes_of {l : List Int} (h : ∀ z ∈ l, (Lit.int .u8 z).wf = true) : Bytes l := by
  intro z hz
  have := h z hz
  simp [Lit.wf, IntKind.min, IntKind.max, IntKind.signed, IntKind.bits] at this
  omega
set_option maxHeartbeats 4000000 in
set_option maxRecDepth 100000 in
theorem walk (v : Value) (w : World) (h : IsInts .u8 w v) (hT : Delta.Table w) (hX : Xor.TabX w) (h2 : 2 ≤ w.heap.size) :
    Calls Tryd.prog 4 #[v] w fun e w' => e = .returned (.bool true) ∧ Below w.heap.size w w' := by
  obtain ⟨m, b, hs, hwf, hn⟩ := h
  obtain ⟨ao, c, rfl, hmc, hcc, hlen⟩ := hs.shape
  have hl : b.length = m := by simpa using hlen
  have HS := Lib.hid hs
  have HB := Lib.hid (bytes_of hwf)
  have HL := Lib.hid hl
  have HT := Lib.hid hT
  have HX := Lib.hid hX
  clear hs hwf hl hT hX hlen
  by_cases hbig : 400 < m
  · go_enter Tryd.func4, Tryd.ntmps4
    go_wp2_with fail
    go_ret
    exact ⟨rfl, Below.refl _ _⟩
  have hm : m ≤ 400 := by omega
  go_enter Tryd.func4, Tryd.ntmps4
  go_wp2_with fail
  refine (open_any _ m b _ HS.out HL.out HB.out hm HT.out HX.out h2).mono ?_
  rintro e w1 ⟨hb1, ⟨out, v1, n1, hg, rfl, hv1, hn1, hr1⟩ | ⟨hng, rfl⟩⟩
  · have HB1 := Lib.hid hb1
    have HV1 := Lib.hid hv1
    have HN1 := Lib.hid hn1
    have HR1 := Lib.hid hr1
    have HG := Lib.hid hg
    have HOD := Lib.hid (opened_any _ m b w1 (HS.out.below hb1) HL.out HB.out hm)
    clear hb1 hv1 hn1 hr1 hg
    go_wp2_with fail
    refine HOD.out.mono ?_
    rintro e w2 ⟨hb2, ⟨out2, v2, n2, hp2, rfl, hv2, hn2, hr2, hn1000⟩ | ⟨hp2, rfl⟩⟩
    case inr => rw [HG.out.1] at hp2; exact absurd hp2 (by simp)
    obtain rfl : out = out2 := by rw [HG.out.1] at hp2; exact Option.some.inj hp2
    have hd : decide (sampF out = 0) = true := decide_eq_true HG.out.2.1
    rw [hd]
    have HB2 := Lib.hid (HB1.out.trans (hb2.mono HB1.out.size))
    have HV12 := Lib.hid (HV1.out.below hb2)
    have HV2 := Lib.hid hv2
    have HN2 := Lib.hid hn2
    have HR2 := Lib.hid hr2
    have hlo : out.length ≤ 1000 := by rw [hn2]; exact hn1000
    have HWF := Lib.hid (Go.Proofs.YtbifhmbfmoeofaaDoor.ChunkSeals.sealF_bytes out hlo)
    clear hb2 hp2 hv2 hn2 hr2 hd
    go_wp2_with fail
    refine (sealed_any _ n2 out _ HV2.out HN2.out HR2.out hn1000).mono ?_
    rintro e w3 ⟨sv, rfl, hown3, hb3⟩
    have HB3 := Lib.hid (HB2.out.trans (hb3.mono HB2.out.size))
    have HV13 := Lib.hid (HV12.out.below hb3)
    have HV23 := Lib.hid (HV2.out.below hb3)
    have HE := equal_any sv (.slice ao m c) _ _ _ _ w3 (own_sl hown3) (HS.out.below HB3.out) HWF.out (u8_of_bytes HB.out)
    rw [show decide (sealF out = b) = true from decide_eq_true HG.out.2.2] at HE
    have HEE := Lib.hid HE
    clear hown3 hb3 HE
    go_wp2_with fail
    refine HEE.out.mono ?_
    rintro e w4 ⟨rfl, hq⟩
    have HQ := Lib.hid hq
    have HV14 : Hid (Sl w4 2 v1 n1 (rowCells out)) := Lib.hid (by rw [← hq]; exact HV13.out)
    have HV24 : Hid (Sl w4 2 v2 n2 (rowCells out)) := Lib.hid (by rw [← hq]; exact HV23.out)
    have HB4 : Hid (Below w.heap.size w w4) := Lib.hid (by rw [← hq]; exact HB3.out)
    clear hq
    go_wp2_with fail
    refine (SameSmp.samesmp_any _ _ n1 n2 out out _ HV14.out HV24.out HN1.out HN2.out HR1.out HR2.out.k).mono ?_
    rw [show decide (out = out) = true from by simp]
    rintro e w5 ⟨rfl, hb5⟩
    have HB5 := Lib.hid (HB4.out.trans (hb5.mono HB4.out.size))
    clear hb5
    go_wp2_with fail
    go_ret
    exact ⟨rfl, HB5.out⟩
  · have HB1 := Lib.hid hb1
    have HNG := Lib.hid hng
    have HOD := Lib.hid (opened_any _ m b w1 (HS.out.below hb1) HL.out HB.out hm)
    clear hb1 hng
    go_wp2_with fail
    refine HOD.out.mono ?_
    rintro e w2 ⟨hb2, ⟨out2, v2, n2, hp2, rfl, hv2, hn2, hr2, hn1000⟩ | ⟨hp2, rfl⟩⟩
    case inr =>
      have HB2 := Lib.hid (HB1.out.trans (hb2.mono HB1.out.size))
      clear hb2 hp2
      go_wp2_with fail
      go_ret
      exact ⟨rfl, HB2.out⟩
    have HB2 := Lib.hid (HB1.out.trans (hb2.mono HB1.out.size))
    have HV2 := Lib.hid hv2
    have HN2 := Lib.hid hn2
    have HR2 := Lib.hid hr2
    have hlo : out2.length ≤ 1000 := by rw [hn2]; exact hn1000
    have HWF := Lib.hid (Go.Proofs.YtbifhmbfmoeofaaDoor.ChunkSeals.sealF_bytes out2 hlo)
    have HNE : Hid (sampF out2 = 0 → ¬ sealF out2 = b) := Lib.hid (fun h1 h2 => HNG.out out2 ⟨hp2, h1, h2⟩)
    clear hb2 hp2 hv2 hn2 hr2
    by_cases hf : sampF out2 = 0
    case neg =>
      rw [show decide (sampF out2 = 0) = false from decide_eq_false hf]
      clear hf
      go_wp2_with fail
      go_ret
      exact ⟨rfl, HB2.out⟩
    have HD : Hid (decide (sealF out2 = b) = false) := Lib.hid (decide_eq_false (HNE.out hf))
    rw [show decide (sampF out2 = 0) = true from decide_eq_true hf]
    clear hf
    go_wp2_with fail
    refine (sealed_any _ n2 out2 _ HV2.out HN2.out HR2.out hn1000).mono ?_
    rintro e w3 ⟨sv, rfl, hown3, hb3⟩
    have HB3 := Lib.hid (HB2.out.trans (hb3.mono HB2.out.size))
    have HE := equal_any sv (.slice ao m c) _ _ _ _ w3 (own_sl hown3) (HS.out.below HB3.out) HWF.out (u8_of_bytes HB.out)
    rw [HD.out] at HE
    have HEE := Lib.hid HE
    clear hown3 hb3 HE
    go_wp2_with fail
    refine HEE.out.mono ?_
    rintro e w4 ⟨rfl, hq⟩
    have HB4 : Hid (Below w.heap.size w w4) := Lib.hid (by rw [← hq]; exact HB3.out)
    clear hq
    go_wp2_with fail
    go_ret
    exact ⟨rfl, HB4.out⟩
end Go.Proofs.YtbifhmbfmoeofaaDoor.ChunkOpens
/-
  What the row's list gives: the table of math/bits holds its sixty-four cells.
-/
namespace Go.Proofs.YtbifhmbfmoeofaaDoor.Xor
open Go.ChangeShapes Go.WideShapes Go.ChangeAt Go.RowKit Go.Gh
set_option linter.unusedVariables false
theorem gTab : Tryd.prog.globalNamed "math/bits.deBruijn64tab" = some 1 := by kernel_rfl
theorem gTabType : (Tryd.prog.globals[1]?).map (·.type) = some 100 := by kernel_rfl
theorem cellsTab : Tryd.prog.cellsOf 100 = 64 := by kernel_rfl
theorem cellsU8 : Tryd.prog.cellsOf 5 = 1 := by kernel_rfl
def tabZ : List Int := Lib.deBruijn64tab.map fun (n : Nat) => (n : Int)
theorem laidMet_tail {P : Program} {W : World} {x : String × DataW Unit} {rest : List (String × DataW Unit)} (h : laidMet P (x :: rest) W) : laidMet P rest W := by
  obtain ⟨ps, ⟨g, t, cs, fuel, p, q, _, _, _, _, hr, rfl⟩, hn, hc⟩ := h
  exact ⟨q, hr, (List.nodup_append.1 hn).2.1, fun b off hb => hc b off (List.mem_append_right _ hb)⟩
theorem table_of_laid {W : World} {rest : List (String × DataW Unit)} (h : laidMet Tryd.prog (("math/bits.deBruijn64tab", Rows.laid_math_bits_deBruijn64tab) :: rest) W) : TabX W ∧ 2 ≤ W.heap.size := by
  have ht : Lib.TabIs Tryd.prog W "math/bits.deBruijn64tab" .u8 tabZ := Lib.tabIs_of_head (rest := rest) gTab gTabType Tryd.underlying100 Tryd.underlying5 cellsU8 cellsTab h
  have hx : TabX W := by
    intro j hj
    have := ht.cell gTab j (by unfold tabZ; rw [List.length_map]; exact hj)
    rw [this]
    congr 2
    unfold tabZ
    rw [List.getD_eq_getElem?_getD, List.getElem?_map, List.getD_eq_getElem?_getD]
    have hl : j < Lib.deBruijn64tab.length := hj
    rw [List.getElem?_eq_getElem hl]
    rfl
  refine ⟨hx, ?_⟩
  have h0 := hx 0 (by decide)
  simp only [World.cell?] at h0
  by_cases hh : 1 < W.heap.size
  · exact hh
  · have : W.heap[1]? = none := Array.getElem?_eq_none (by omega)
    rw [this] at h0
    simp at h0
end Go.Proofs.YtbifhmbfmoeofaaDoor.Xor
/-
  What the row's list gives: the table of widths holds its fifteen cells.
-/
namespace Go.Proofs.YtbifhmbfmoeofaaDoor.Delta
open Go.ChangeShapes Go.WideShapes Go.ChangeAt Go.RowKit Go.Gh
set_option linter.unusedVariables false
theorem gTab : Tryd.prog.globalNamed "gaugehouse/delta.widths" = some 0 := by kernel_rfl
theorem gTabType : (Tryd.prog.globals[0]?).map (·.type) = some 78 := by kernel_rfl
theorem cellsTab : Tryd.prog.cellsOf 78 = 15 := by kernel_rfl
theorem cellsRow : Tryd.prog.cellsOf 77 = 3 := by kernel_rfl
theorem cellsU64 : Tryd.prog.cellsOf 63 = 1 := by kernel_rfl
theorem cellsInt : Tryd.prog.cellsOf 3 = 1 := by kernel_rfl
theorem width_cells {H : Type} {enc : TypeId × Value → H} {w : World} {base : Nat} {sp : Nat → Bool} {held : Bool} {fuel : Nat} {cs : List Value} {x : DataW H × List MemPlace} {a b c : Int}
    (h : DataW.trod enc Tryd.prog w base sp held fuel 77 cs = some x) (hx : x.1 = .agg [.lit (.int .u64 a), .lit (.int .i64 b), .lit (.int .i64 c)]) : cs = [.int .u64 a, .int .i64 b, .int .i64 c] := by
  obtain ⟨xs, n, _, rfl, hl, hlen, hf⟩ := DataW.trod_struct Tryd.underlying77 h
  rw [cellsRow] at hl
  match cs, hl with
  | [c0, c1, c2], _ =>
    match xs, hlen with
    | [y0, y1, y2], _ =>
      have f0 := hf 0 _ rfl
      have f1 := hf 1 _ rfl
      have f2 := hf 2 _ rfl
      obtain ⟨n0, e0, rfl, _⟩ := DataW.trod_int Tryd.underlying63 f0
      obtain ⟨n1, e1, rfl, _⟩ := DataW.trod_int Tryd.underlying3 f1
      obtain ⟨n2, e2, rfl, _⟩ := DataW.trod_int Tryd.underlying3 f2
      simp at hx e0 e1 e2
      obtain ⟨rfl, rfl, rfl⟩ := hx
      rw [cellsU64] at e0
      rw [cellsInt] at e1 e2
      simp at e0 e1 e2
      rw [e0, e1, e2]
theorem table_of_laid {W : World} {rest : List (String × DataW Unit)} (h : laidMet Tryd.prog (("gaugehouse/delta.widths", Rows.laid_gaugehouse_delta_widths) :: rest) W) : Table W := by
  obtain ⟨ps, ⟨g, t, cs, fuel, p, q, hg, ht, hvar, hd, _, _⟩, _⟩ := h
  obtain rfl := Option.some.inj (gTab.symm.trans hg)
  obtain rfl := Option.some.inj (gTabType.symm.trans ht)
  obtain ⟨xs, m, rfl, hx, hlen, hn, hel⟩ := DataW.trod_array Tryd.underlying78 hd
  obtain ⟨l⟩ := cs
  rw [cellsTab] at hlen
  rw [cellsRow] at hel
  simp only [Prod.mk.injEq] at hx
  have hx1 := hx.1
  simp only [Rows.laid_gaugehouse_delta_widths, DataW.agg.injEq] at hx1
  match xs, hn, hx1 with
  | [x0, x1, x2, x3, x4], _, hx1 =>
    simp only [List.map_cons, List.map_nil, List.cons.injEq, and_true] at hx1
    obtain ⟨e0, e1, e2, e3, e4⟩ := hx1
    have r0 := width_cells (hel 0 (by decide)) e0.symm
    have r1 := width_cells (hel 1 (by decide)) e1.symm
    have r2 := width_cells (hel 2 (by decide)) e2.symm
    have r3 := width_cells (hel 3 (by decide)) e3.symm
    have r4 := width_cells (hel 4 (by decide)) e4.symm
    match l, hlen, r0, r1, r2, r3, r4, hvar with
    | [c0, c1, c2, c3, c4, c5, c6, c7, c8, c9, c10, c11, c12, c13, c14], _, r0, r1, r2, r3, r4, hvar =>
      simp at r0 r1 r2 r3 r4
      obtain ⟨rfl, rfl, rfl⟩ := r0
      obtain ⟨rfl, rfl, rfl⟩ := r1
      obtain ⟨rfl, rfl, rfl⟩ := r2
      obtain ⟨rfl, rfl, rfl⟩ := r3
      obtain ⟨rfl, rfl, rfl⟩ := r4
      have c := fun i => World.var?_cell hg hvar i
      have h0 := c 0
      refine ⟨?_, ⟨c 0, c 1, c 2⟩, ⟨c 3, c 4, c 5⟩, ⟨c 6, c 7, c 8⟩, ⟨c 9, c 10, c 11⟩, c 12, c 13, c 14⟩
      simp only [World.cell?] at h0
      by_cases hh : 0 < W.heap.size
      · exact hh
      · have : W.heap[0]? = none := Array.getElem?_eq_none (by omega)
        rw [this] at h0
        simp at h0
end Go.Proofs.YtbifhmbfmoeofaaDoor.Delta
/-
  'gaugehouselaw.ChunkOpens' returns true, whatever is handed in, and its argument reads behind the call as it read before; the listed table as the program's text lays it: THE ROW and THE TIED CARD.
-/
namespace Go.Proofs.YtbifhmbfmoeofaaDoor.ChunkOpens
open Go.RowKit Go.ChangeShapes Go.WideShapes Go.ChangeAt Go.Gh
set_option linter.unusedVariables false
theorem own : ownKnob Tryd.prog.godebug = none := by kernel_rfl
theorem laidOut : laidOutB Tryd.prog = true := by kernel_rfl

theorem contract (H : Type) (enc : TypeId × Value → H) (W : World) (base : Nat) (args : Array Value) (ds gs : List (DataW H)) (before : List MemPlace)
    (hval : ∀ (j : Nat) t v, Tryd.f4.params[j]? = some t → args[j]? = some v → Value.okWide Tryd.prog W .any base t v)
    (hW : DataW.Whole enc Tryd.prog Tryd.f4.params.toList Rows.chunkOpensSpec.vars false W args.toList ds gs before)
    (hsz0 : (DataW.weightsEach Tryd.prog (Tryd.f4.params.toList ++ Rows.chunkOpensSpec.plain.varTypes Tryd.prog) (ds ++ gs)).all (fun n => decide (n ≤ reachBytes)) = true)
    (hL : laidMetH Tryd.prog Rows.chunkOpensRow.laid W) :
    Calls Tryd.prog 4 args W fun e W' => ∃ v, e = .returned v ∧ Rows.chunkOpensSpec.post enc Tryd.prog Tryd.f4 false true false false W args v W' := by
  have hW' := hW
  have hsz := hsz0
  obtain ⟨p, q, hA0, hV, rfl, hfz, hnd⟩ := hW
  have hA : DataW.TrodAll enc Tryd.prog W 0 (fun _ => true) true Tryd.f4.params.toList args.toList ds p := hA0
  rw [Tryd.params4] at hA hval hsz
  obtain ⟨v0, vs0, d0, ds0, p0, q0, hargs, rfl, rfl, h0, r0⟩ := trodAll_cons hA
  obtain ⟨rfl, rfl, rfl⟩ := trodAll_nil r0
  obtain rfl : args = #[v0] := by cases args; simp_all
  obtain ⟨rfl, rfl⟩ := trodVars_none hV
  have u0 := (isInts_of Tryd.underlying23 Tryd.underlying5 (by kernel_rfl) (of_decide_eq_true (by kernel_rfl)) (hval 0 _ v0 rfl rfl) h0 (sized_at hsz 0 rfl rfl))
  clear hA0 hsz0
  refine (walk v0 W u0 (Delta.table_of_laid (Xor.laidMet_tail hL)) (Xor.table_of_laid hL).1 (Xor.table_of_laid hL).2).mono fun e W' ⟨he, bel⟩ => ?_
  subst he
  exact ⟨_, rfl, _, _, _, [], _, [], hW', trodAll_mk1 (shut_bool Tryd.underlying4 _), (trodAll_cons_mk (Below.trod laidOut (by kernel_rfl) (of_decide_eq_true (by kernel_rfl)) h0 bel (trod_lt' h0)) trodAll_mk0), rfl, bel.frame _, fun h => by cases h⟩

/-- A world for the witness: the settled one, the table's block holding what its initialiser lays. -/
noncomputable def laidWorld (os : Os) : World :=
  { World.holding Tryd.prog os ⟨#[], #[], []⟩ with heap := (((World.holding Tryd.prog os ⟨#[], #[], []⟩).heap.modify 1 fun
      | .cells _ t frozen => .cells #[.int .u8 0, .int .u8 1, .int .u8 56, .int .u8 2, .int .u8 57, .int .u8 49, .int .u8 28, .int .u8 3, .int .u8 61, .int .u8 58, .int .u8 42, .int .u8 50, .int .u8 38, .int .u8 29, .int .u8 17, .int .u8 4, .int .u8 62, .int .u8 47, .int .u8 59, .int .u8 36, .int .u8 45, .int .u8 43, .int .u8 51, .int .u8 22, .int .u8 53, .int .u8 39, .int .u8 33, .int .u8 30, .int .u8 24, .int .u8 18, .int .u8 12, .int .u8 5, .int .u8 63, .int .u8 55, .int .u8 48, .int .u8 27, .int .u8 60, .int .u8 41, .int .u8 37, .int .u8 16, .int .u8 46, .int .u8 35, .int .u8 44, .int .u8 21, .int .u8 52, .int .u8 32, .int .u8 23, .int .u8 11, .int .u8 54, .int .u8 26, .int .u8 40, .int .u8 15, .int .u8 34, .int .u8 20, .int .u8 31, .int .u8 10, .int .u8 25, .int .u8 14, .int .u8 19, .int .u8 9, .int .u8 13, .int .u8 8, .int .u8 7, .int .u8 6] t frozen
      | o => o).modify 0 fun
      | .cells _ t frozen => .cells #[.int .u64 0, .int .i64 1, .int .i64 0, .int .u64 2, .int .i64 2, .int .i64 7, .int .u64 6, .int .i64 3, .int .i64 9, .int .u64 14, .int .i64 4, .int .i64 12, .int .u64 15, .int .i64 4, .int .i64 64] t frozen
      | o => o) }
theorem laid_met (os : Os) : laidMet Tryd.prog Rows.chunkOpensRow.laid ((laidWorld os).forCall (fun _ _ => 0) ⟨#[], #[.slice none 0 0], []⟩).memory :=
  laidMet_of_run' 8 (by kernel_rfl) (by kernel_rfl)
theorem reads (os : Os) {H : Type} (enc : TypeId × Value → H) : ∃ places, DataW.whole enc Tryd.prog ((laidWorld os).forCall (fun _ _ => 0) ⟨#[], #[.slice none 0 0], []⟩).memory Tryd.f4.params.toList Rows.chunkOpensSpec.vars false #[.slice none 0 0].toList 8 = some ([.nil], [], places) :=
  ⟨[], by kernel_rfl⟩

set_option maxRecDepth 100000 in
theorem lifted (os : Os) (started : os.Started) (H : Type) (enc : TypeId × Value → H) (F : Stop.Interp) :
    ReturnsInHanded {} Tryd.checked os 4 .any ((OpenSpec.ofChange Rows.chunkOpensSpec).preRow enc Tryd.prog Tryd.f4 Rows.chunkOpensRow.domain false Rows.chunkOpensRow.laid) (((OpenSpec.ofChange Rows.chunkOpensSpec).at F).post enc Tryd.prog Tryd.f4 false true false false) := by
  obtain ⟨places, hx⟩ := reads os enc
  refine returnsInHanded_of_row (C := Tryd.checked) (s := OpenSpec.ofChange Rows.chunkOpensSpec) own started (by kernel_rfl) Tryd.func4
    (witness_row_at (enc := enc) (C := Tryd.checked) false (laidWorld os) #[.slice none 0 0] rfl (by kernel_rfl) (by kernel_rfl) (by kernel_rfl)
      (OpenSpec.preRow_of_cond 8 hx (by kernel_rfl) (fun k hk => by cases hk) (by kernel_rfl) (laid_met os))) ?_
  intro W base args ds gs before hval hW _ _ hsz hL _ _
  exact contract H enc W base args ds gs before hval hW hsz hL

theorem said : Rows.ChunkOpensSaid :=
  OpenClaim.holds_of_cond 4 Tryd.f4 rfl rfl rfl rfl rfl rfl rfl ⟨rfl, rfl, rfl, rfl, rfl⟩ rfl rfl rfl rfl rfl (by kernel_rfl) Tryd.func4 (by kernel_rfl)
    (of_decide_eq_true (by kernel_rfl)) (by unfold Func.isWrapper; first | (rw [if_pos (by decide +kernel)]; kernel_rfl) | (rw [if_neg (by decide +kernel)]; exact ⟨rfl, rfl⟩))
    (fun os started H enc _ F => by rw [OpenClaim.pre_eq_preRow]; exact lifted os started H enc F)

/-- No parameter wants a stand-in; the program's own looks are off. -/
theorem plain (f : FuncId) (fn : Func) (hf : Tryd.pinned.checked.prog.funcNamed "gaugehouse/gaugehouselaw.ChunkOpens" = some f) (hfn : Tryd.pinned.checked.prog.funcs[f]? = some fn) :
    false = Tryd.pinned.checked.prog.looks [] ∧ ∀ (j : Nat) t, fn.params[j]? = some t → Tryd.pinned.checked.prog.wantsStandIn t = false := by
  obtain rfl : f = 4 := Option.some.inj ((show Tryd.prog.funcNamed "gaugehouse/gaugehouselaw.ChunkOpens" = some 4 by kernel_rfl).symm.trans hf) |>.symm
  obtain rfl : fn = Tryd.f4 := (Option.some.inj (Tryd.func4.symm.trans hfn)).symm
  refine ⟨by kernel_rfl, fun j t ht => ?_⟩
  rw [Tryd.params4] at ht
  obtain rfl : t = 23 := by simpa using Array.mem_of_getElem? ht
  exact (show Tryd.prog.wantsStandIn 23 = false by kernel_rfl)

/-- THE CARD -/
theorem proved : Rows.ChunkOpensCardSaid :=
  Claim7.holds_tied_plain_at .later [] _ _ _ _ said (fun _ h => by cases h) (by kernel_rfl) (fun _ h => by cases h) chunkOpens_row_tie rfl ⟨rfl, rfl⟩ (by kernel_rfl) rfl plain (by kernel_rfl)
#print axioms proved
end Go.Proofs.YtbifhmbfmoeofaaDoor.ChunkOpens
