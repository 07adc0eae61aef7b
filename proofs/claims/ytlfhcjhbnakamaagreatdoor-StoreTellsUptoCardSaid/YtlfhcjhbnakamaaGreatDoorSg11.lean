/-
  A put: the walks of GoodTime, PutFault, PutBytes and Encode (PRINTED by mkst1.py).
-/
import Derived.Test.YtlfhcjhbnakamaaGreatDoorSg4
import Derived.Test.YtlfhcjhbnakamaaGreatDoorSg8
import Derived.Test.YtlfhcjhbnakamaaGreatDoorSg10
import Derived.Deep.RegionHeld3
namespace Go.Proofs.YtlfhcjhbnakamaaGreatDoor.Sto
open Go.RowKit Go.Gh Go.Proofs.YtlfhcjhbnakamaaGreatDoor.Bits Go.Proofs.YtlfhcjhbnakamaaGreatDoor.Lab Go.Proofs.YtlfhcjhbnakamaaGreatDoor.Tk
set_option linter.unusedVariables false
set_option linter.unusedSimpArgs false
theorem goodtime_any (T : Int) (w : World) : Calls Tryz.prog 51 #[.int .i64 T] w fun e w' => e = .returned (.bool (decide (¬ outT T))) ∧ w' = w := by
  have hd : decide (¬ outT T) = (decide (-1152921504606846976 ≤ T) && decide (T ≤ 1152921504606846976)) := by
    rw [Bool.eq_iff_iff]
    unfold outT
    simp only [decide_eq_true_eq, Bool.and_eq_true]
    omega
  rw [hd]
  clear hd
  by_cases h1 : -1152921504606846976 ≤ T
  · by_cases h2 : T ≤ 1152921504606846976
    · go_enter Tryz.func51, Tryz.ntmps51
      go_wp2_with fail
      go_ret
      exact ⟨by simp [h1, h2], rfl⟩
    · go_enter Tryz.func51, Tryz.ntmps51
      go_wp2_with fail
      go_ret
      exact ⟨by simp [h1, h2], rfl⟩
  · go_enter Tryz.func51, Tryz.ntmps51
    go_wp2_with fail
    go_ret
    exact ⟨by simp [h1]; omega, rfl⟩
/-- The box of a sample. -/
theorem box_smp (w : World) (T V : Int) : ∃ wa, wa = w.alloc (Obj.cells #[.int .i64 T, .int .i64 V] 44) ∧ wa.heap[w.heap.size]? = some (.cells #[.int .i64 T, .int .i64 V] 44 (0, 0)) ∧ Below w.heap.size w wa ∧ w.heap.size < wa.heap.size :=
  ⟨_, rfl, heap_alloc_new w _, (Below.refl _ _).alloc (Nat.le_refl _) _, by simp⟩
set_option maxHeartbeats 4000000 in
set_option maxRecDepth 100000 in
theorem putfault_any (v : Value) (L : List Lb) (T V : Int) (w : World) (hs : Sp LbR 2 w v L) : Calls Tryz.prog 21 #[v, .agg #[.int .i64 T, .int .i64 V]] w fun e w' => e = .returned (.int .i64 (putF L T)) ∧ Below w.heap.size w w' := by
  obtain ⟨ao, c, rfl, -, -⟩ := hs.shape
  have HLF := Lib.hid (fun W (hb : Below w.heap.size w W) => lbfault_any _ L W (hs.below lbR_mono hb))
  have HGT := Lib.hid (fun W => goodtime_any T W)
  obtain ⟨F, hF⟩ : ∃ F, putF L T = F := ⟨_, rfl⟩
  rw [hF]
  unfold putF at hF
  obtain ⟨E, hE⟩ : ∃ E, labelF L = E := ⟨_, rfl⟩
  rw [hE] at HLF hF
  have HF := Lib.hid hF
  obtain ⟨wa, hwa, hbox, hba, hsa⟩ := box_smp w T V
  have HBA := Lib.hid hba
  have HWA := Lib.hid hwa
  have HC := Lib.hid (HLF.out wa hba)
  clear hs hF hE hwa hba
  go_enter Tryz.func21, Tryz.ntmps21
  go_upto_region 1 with (fail)
  rw [← HWA.out]
  obtain ⟨bx, hbx⟩ : ∃ bx, w.heap.size = bx := ⟨_, rfl⟩
  rw [hbx] at hbox hsa ⊢
  have HBX := Lib.hid hbx
  clear hbx
  go_upto_region 2 with (go_at_call 9; refine HC.out.mono ?_; rintro e w1 ⟨rfl, hb1⟩; have hbox1 := (hb1.block bx hsa).trans hbox; have HB1 := Lib.hid (HBA.out.trans (hb1.mono HBA.out.size)); clear hb1)
  obtain ⟨⟨d0, d1⟩, -⟩ := bx2 hbox1
  clear hbox hbox1
  by_cases hz : E = 0
  case neg =>
    have t1 : (E != 0) = true := by rw [bne_iff_ne]; exact hz
    rw [if_pos hz] at HF
    clear hz
    go_wp2_with fail
    go_ret
    exact ⟨by rw [← HF.out]; rfl, HB1.out⟩
  subst hz
  rw [if_neg (by simp)] at HF
  by_cases ho : outT T
  · rw [if_pos ho] at HF
    rw [decide_eq_false (fun h => h ho)] at HGT
    clear ho
    go_wp2_with (go_at_call 51; refine (HGT.out _).mono ?_; rintro e w2 ⟨rfl, rfl⟩)
    go_ret
    exact ⟨by rw [← HF.out]; rfl, HB1.out⟩
  · rw [if_neg ho] at HF
    rw [decide_eq_true ho] at HGT
    clear ho
    go_wp2_with (go_at_call 51; refine (HGT.out _).mono ?_; rintro e w2 ⟨rfl, rfl⟩)
    go_ret
    exact ⟨by rw [← HF.out]; rfl, HB1.out⟩
theorem sl_of_own {w : World} {B : Nat} {v : Value} {l : List Int} (h : w.ownsRow B 5 1 v l.length (l.map (Value.int .u8))) : Sl w 1 v l.length (l.map (Value.int .u8)) := own_sl h
theorem txt_len {L : List Lb} (h : labelF L = 0) : (textM (asM L)).length ≤ 1060 := by
  have := commas_ok (labelF_match h)
  unfold textM
  simp only [List.length_cons, List.length_append, List.length_nil]
  omega
theorem sp3 {w : World} {b : Nat} {v1 v2 v3 : Value} {l1 l2 l3 : List Int} {T : TypeId} (hb : w.heap[b]? = some (.cells #[v1, v2, v3] T (0, 0))) (h1 : Sl w 1 v1 l1.length (l1.map (Value.int .u8))) (h2 : Sl w 1 v2 l2.length (l2.map (Value.int .u8))) (h3 : Sl w 1 v3 l3.length (l3.map (Value.int .u8))) : Sp CatB.ByR 1 w (.slice (some ⟨b, 0, none⟩) 3 3) [l1, l2, l3] := by
  refine ⟨[(l1, [v1]), (l2, [v2]), (l3, [v3])], rfl, ?_, ?_, ?_⟩
  · intro p hp
    simp at hp
    rcases hp with rfl | rfl | rfl <;> rfl
  · intro p hp
    simp at hp
    rcases hp with rfl | rfl | rfl
    · exact ⟨_, rfl, h1⟩
    · exact ⟨_, rfl, h2⟩
    · exact ⟨_, rfl, h3⟩
  · refine ⟨some ⟨b, 0, none⟩, 3, rfl, Nat.le_refl _, by decide, fun h => by simp at h, rfl, fun _ => ⟨b, 0, rfl, fun j u hj => ?_⟩⟩
    rw [Nat.zero_add]
    refine (row_cell j u hb ?_).1
    simpa [pc] using hj
/-- The bytes, or the fault. -/
def EnP (w : World) (L : List Lb) (T V : Int) (e : Ending) (w' : World) : Prop := Below w.heap.size w w' ∧ ∃ v, e = .returned (.tuple #[v, .int .i64 (putF L T)]) ∧ w'.ownsRow w.heap.size 5 1 v (encR L T V).length ((encR L T V).map (Value.int .u8))
theorem conv_sl (l : By) (W : World) (hl : l.length ≤ 140737488355328) : ∃ v, (∀ W', W' = W → (convert 9 45 (.string (mkS l))).run Tryz.prog W' = .ok v (Lib.bytesWorld W 5 (mkS l))) ∧ Sl (Lib.bytesWorld W 5 (mkS l)) 1 v (bI l).length ((bI l).map (Value.int .u8)) ∧ Below W.heap.size W (Lib.bytesWorld W 5 (mkS l)) := by
  refine ⟨_, fun W' hW => by rw [hW]; exact Lib.run_convert_string_bytes W 9 45 5 (mkS l) Tryz.underlying9 Tryz.underlying45 Tryz.underlying5, ?_, convS_below W 5 (mkS l)⟩
  have h := convS_sl W 5 (mkS l) (by rw [mkS_size]; exact hl)
  rw [kbS_mk, mkS_size] at h
  rw [bI_len]
  exact h
set_option maxHeartbeats 16000000 in
set_option maxRecDepth 100000 in
theorem encode_any (v : Value) (L : List Lb) (T V : Int) (w : World) (hs : Sp LbR 2 w v L) (hT : STab w) (b1 : -9223372036854775808 ≤ T) (b2 : T < 9223372036854775808) (b3 : -9223372036854775808 ≤ V) (b4 : V < 9223372036854775808) : Calls Tryz.prog 18 #[v, .agg #[.int .i64 T, .int .i64 V]] w (EnP w L T V) := by
  obtain ⟨ao, c, rfl, -, -⟩ := hs.shape
  obtain ⟨E, hE⟩ : ∃ E, labelF L = E := ⟨_, rfl⟩
  obtain ⟨TX, hTX⟩ : ∃ E2, mkS (if E = 0 then textM (asM L) else []) = E2 := ⟨_, rfl⟩
  have HTX : Hid (∀ W (hb : Below w.heap.size w W), Calls Tryz.prog 7 #[.slice ao L.length c] W fun e w' => e = .returned (.tuple #[.string TX, .int .i64 E]) ∧ Below W.heap.size W w') := Lib.hid (fun W hb => by
    have h := text2_any _ L W (hs.below lbR_mono hb) (hT.below hb)
    unfold txP at h
    rw [hE, hTX] at h
    exact h)
  have HE := Lib.hid hE
  have HTX2 := Lib.hid hTX
  obtain ⟨F, hF⟩ : ∃ F, putF L T = F := ⟨_, rfl⟩
  obtain ⟨X, hX⟩ : ∃ F, encR L T V = F := ⟨_, rfl⟩
  have hpost : ∀ e w', (Below w.heap.size w w' ∧ ∃ v, e = .returned (.tuple #[v, .int .i64 F]) ∧ w'.ownsRow w.heap.size 5 1 v X.length (X.map (Value.int .u8))) → EnP w L T V e w' := fun e w' h => by
    unfold EnP
    rw [hF, hX]
    exact h
  refine Calls.mono ?_ hpost
  have hF2 := hF
  unfold putF at hF2
  rw [hE] at hF2
  have HF := Lib.hid hF2
  have hX2 := hX
  unfold encR at hX2
  rw [hF] at hX2
  have HX := Lib.hid hX2
  obtain ⟨wa, hwa, hbox, hba, hsa⟩ := box_smp w T V
  have HBA := Lib.hid hba
  have HWA := Lib.hid hwa
  have HC := Lib.hid (HTX.out wa hba)
  obtain ⟨n, hn⟩ : ∃ n, L.length = n := ⟨_, rfl⟩
  rw [hn] at HC ⊢
  have B12 := Lib.hid (zig_bd b1 b2)
  have B34 := Lib.hid (zig_bd b3 b4)
  have HZ1 := Lib.hid (fun W => zig_any T b1 b2 W)
  have HZ2 := Lib.hid (fun W => zig_any V b3 b4 W)
  have HP1 := Lib.hid (fun W => put_any (zigI T) B12.out.1 B12.out.2 W)
  have HP2 := Lib.hid (fun W => put_any (zigI V) B34.out.1 B34.out.2 W)
  obtain ⟨zt, hzt⟩ : ∃ z, zigI T = z := ⟨_, rfl⟩
  obtain ⟨zv, hzv⟩ : ∃ z, zigI V = z := ⟨_, rfl⟩
  rw [hzt] at HZ1 HP1
  rw [hzv] at HZ2 HP2
  have HZT := Lib.hid hzt
  have HZV := Lib.hid hzv
  obtain ⟨bt, hbt⟩ : ∃ z, putI 9 zt = z := ⟨_, rfl⟩
  obtain ⟨bv, hbv⟩ : ∃ z, putI 9 zv = z := ⟨_, rfl⟩
  have HLN : Hid (bt.length ≤ 10 ∧ bv.length ≤ 10) := Lib.hid ⟨by rw [← hbt]; exact (putI_len 9 zt).2, by rw [← hbv]; exact (putI_len 9 zv).2⟩
  rw [hbt] at HP1
  rw [hbv] at HP2
  have HBT := Lib.hid hbt
  have HBV := Lib.hid hbv
  clear hs hT hE hTX hF hX hF2 hX2 hpost hwa hba hn b3 b4 hzt hzv hbt hbv HTX
  go_enter Tryz.func18, Tryz.ntmps18
  go_upto_region 1 with (fail)
  rw [← HWA.out]
  obtain ⟨bx, hbx⟩ : ∃ bx, w.heap.size = bx := ⟨_, rfl⟩
  rw [hbx] at hbox hsa ⊢
  have HBX := Lib.hid hbx
  clear hbx
  go_upto_region 2 with (go_at_call 7; refine HC.out.mono ?_; rintro e w1 ⟨rfl, hb1⟩; have hbox1 := (hb1.block bx hsa).trans hbox; have HB1 := Lib.hid (HBA.out.trans (hb1.mono HBA.out.size)); clear hb1)
  obtain ⟨⟨d0, d1⟩, -⟩ := bx2 hbox1
  have hbl : bx < w1.heap.size := (Array.getElem?_eq_some_iff.1 hbox1).1
  clear hbox hbox1
  by_cases hz : E = 0
  case neg =>
    have t1 : (E != 0) = true := by rw [bne_iff_ne]; exact hz
    have HN : Hid (F = E ∧ X = []) := Lib.hid (by
      have h1 := HF.out
      have h2 := HX.out
      rw [if_pos hz] at h1
      rw [if_neg (by rw [← h1]; exact hz)] at h2
      exact ⟨h1.symm, h2.symm⟩)
    clear hz
    go_wp2_with fail
    go_ret2
    refine ⟨by have := HB1.out; rwa [HBX.out] at this, ?_⟩
    rw [HN.out.1, HN.out.2]
    exact ⟨_, rfl, World.ownsRow_nil _ _ _ _⟩
  subst hz
  have hf0 := HF.out
  rw [if_neg (by simp)] at hf0
  by_cases ho : outT T
  · have HN : Hid (F = 6 ∧ X = []) := Lib.hid (by
      have h2 := HX.out
      rw [if_pos ho] at hf0
      rw [if_neg (by rw [← hf0]; decide)] at h2
      exact ⟨hf0.symm, h2.symm⟩)
    have HO := Lib.hid ho
    clear ho hf0
    rcases HO.out with h1 | h1
    · go_wp2_with fail
      go_ret2
      refine ⟨by have := HB1.out; rwa [HBX.out] at this, ?_⟩
      rw [HN.out.1, HN.out.2]
      exact ⟨_, rfl, World.ownsRow_nil _ _ _ _⟩
    · have h2 : ¬ T < -1152921504606846976 := by omega
      go_wp2_with fail
      go_ret2
      refine ⟨by have := HB1.out; rwa [HBX.out] at this, ?_⟩
      rw [HN.out.1, HN.out.2]
      exact ⟨_, rfl, World.ownsRow_nil _ _ _ _⟩
  have hno := not_or.1 ho
  have hn1 : ¬ T < -1152921504606846976 := hno.1
  have hn2 : ¬ 1152921504606846976 < T := hno.2
  have HN : Hid (F = 0 ∧ X = encB T V L) := Lib.hid (by
    have h2 := HX.out
    rw [if_neg ho] at hf0
    rw [if_pos hf0.symm] at h2
    exact ⟨hf0.symm, h2.symm⟩)
  clear ho hf0 hno
  go_upto_region 6 with (fail)
  clear hn1 hn2
  obtain ⟨tl, htl⟩ : ∃ z, textM (asM L) = z := ⟨_, rfl⟩
  have HTL : Hid (TX = mkS tl) := Lib.hid (by
    have := HTX2.out
    rw [if_pos rfl, htl] at this
    exact this.symm)
  have htn : tl.length ≤ 1060 := by rw [← htl]; exact txt_len HE.out
  have HEN : Hid (X = [bt, bv, bI tl].flatten) := Lib.hid (by rw [HN.out.2, ← htl, ← HBT.out, ← HBV.out, ← HZT.out, ← HZV.out]; rfl)
  have HTN := Lib.hid htn
  have HCV := Lib.hid (fun W => conv_sl tl W (by omega))
  rw [← HTL.out] at HCV
  have x0 : w1.drew.cell? ⟨bx, 0, none⟩ = some (.int .i64 T) := d0
  have x1 : w1.drew.cell? ⟨bx, 1, none⟩ = some (.int .i64 V) := d1
  have HB0 : Hid (Below w.heap.size w w1.drew) := Lib.hid (by have := HB1.out; exact this.drew)
  have hl0 : bx < w1.drew.heap.size := hbl
  clear htl htn d0 d1 hbl
  refine wp_region_noPanic ?_
  refine wp_region_held_drew (S := fun w' => w'.cell? ⟨bx, 0, none⟩ = some (.int .i64 T) ∧ w'.cell? ⟨bx, 1, none⟩ = some (.int .i64 V)) (by kernel_rfl) ⟨x0, x1⟩ (fun hHeld => ?_)
  generalize w1.drew = W0 at *
  refine wpAnyH_take (i := 0) (v := ?v0_1) rfl (by kernel_rfl) (by kernel_rfl) (by kernel_rfl) (fun _ _ _ h => h) (Or.inl ⟨by rfl, ?hy0_1⟩) ⟨x0, x1⟩ ?rest0_1
  case hy0_1 => (intro w hSw; (try dsimp only at hSw); go_simp; (try with_reducible rfl))
  case rest0_1 =>
  try simp only [Act.put, List.setIfInBounds_toArray, List.set_cons_zero, List.set_cons_succ, List.getElem_toArray, List.getElem_cons_succ, List.getElem_cons_zero]
  refine wpAnyH_take (i := 1) (v := ?v1_2) rfl (by kernel_rfl) (by kernel_rfl) (by kernel_rfl) (fun _ _ _ h => h) (Or.inl ⟨by rfl, ?hy1_2⟩) ⟨x0, x1⟩ ?rest1_2
  case hy1_2 => (intro w hSw; (try dsimp only at hSw); go_simp; (try with_reducible rfl))
  case rest1_2 =>
  try simp only [Act.put, List.setIfInBounds_toArray, List.set_cons_zero, List.set_cons_succ, List.getElem_toArray, List.getElem_cons_succ, List.getElem_cons_zero]
  refine wpAnyH_take (i := 4) (v := ?v4_3) rfl (by kernel_rfl) (by kernel_rfl) (by kernel_rfl) (fun _ _ _ h => h) (Or.inl ⟨by rfl, ?hy4_3⟩) ⟨x0, x1⟩ ?rest4_3
  case hy4_3 => (intro w hSw; (try dsimp only at hSw); go_simp; (try with_reducible rfl))
  case rest4_3 =>
  try simp only [Act.put, List.setIfInBounds_toArray, List.set_cons_zero, List.set_cons_succ, List.getElem_toArray, List.getElem_cons_succ, List.getElem_cons_zero]
  refine wpAnyH_take (i := 5) (v := ?v5_4) rfl (by kernel_rfl) (by kernel_rfl) (by kernel_rfl) (fun _ _ _ h => h) (Or.inl ⟨by rfl, ?hy5_4⟩) ⟨x0, x1⟩ ?rest5_4
  case hy5_4 => (intro w hSw; (try dsimp only at hSw); go_simp; (try with_reducible rfl))
  case rest5_4 =>
  try simp only [Act.put, List.setIfInBounds_toArray, List.set_cons_zero, List.set_cons_succ, List.getElem_toArray, List.getElem_cons_succ, List.getElem_cons_zero]
  refine wpAnyH_take (i := 8) (v := ?v8_5) rfl (by kernel_rfl) (by kernel_rfl) (by kernel_rfl) (fun _ _ _ h => h) (Or.inl ⟨by rfl, ?hy8_5⟩) ⟨x0, x1⟩ ?rest8_5
  case hy8_5 => (intro w hSw; (try dsimp only at hSw); go_simp; (try with_reducible rfl))
  case rest8_5 =>
  try simp only [Act.put, List.setIfInBounds_toArray, List.set_cons_zero, List.set_cons_succ, List.getElem_toArray, List.getElem_cons_succ, List.getElem_cons_zero]
  refine wpAnyH_ready (rs := [2, 9]) (by kernel_rfl) (by simp) ?_
  refine AllReadyH.cons rfl (fun K hK => ?_) ?_
  · go_simp
    refine (HZ1.out W0).mono ?_
    rintro e wz ⟨rfl, hwz⟩
    subst hwz
    refine hK.out _ _ ⟨x0, x1⟩ (fun hHeld2 => ?_)
    clear hK K
    try simp only [Act.put, List.setIfInBounds_toArray, List.set_cons_zero, List.set_cons_succ, List.getElem_toArray, List.getElem_cons_succ, List.getElem_cons_zero]
    refine wpAnyH_ready (rs := [3, 9]) (by kernel_rfl) (by simp) ?_
    refine AllReadyH.cons rfl (fun K hK => ?_) ?_
    · go_simp
      refine (HP1.out W0).mono ?_
      rintro e W1 ⟨vT, rfl, hoT, hb1⟩
      have HOT := Lib.hid (sl_of_own hoT)
      obtain ⟨aoT, cT, rfl, -, -, -⟩ := own_shape hoT
      clear hoT
      have HB_1 := Lib.hid hb1
      have hl_1 : bx < W1.heap.size := Nat.lt_of_lt_of_le hl0 hb1.size
      have y0_1 : W1.cell? ⟨bx, 0, none⟩ = some (.int .i64 T) := (hb1.cell (p := ⟨bx, 0, none⟩) hl0).trans x0
      have y1_1 : W1.cell? ⟨bx, 1, none⟩ = some (.int .i64 V) := (hb1.cell (p := ⟨bx, 1, none⟩) hl0).trans x1
      clear hb1
      refine hK.out _ _ ⟨y0_1, y1_1⟩ (fun hHeld2 => ?_)
      clear hK K
      try simp only [Act.put, List.setIfInBounds_toArray, List.set_cons_zero, List.set_cons_succ, List.getElem_toArray, List.getElem_cons_succ, List.getElem_cons_zero]
      refine wpAnyH_ready (rs := [6, 9]) (by kernel_rfl) (by simp) ?_
      refine AllReadyH.cons rfl (fun K hK => ?_) ?_
      · go_simp
        refine (HZ2.out W1).mono ?_
        rintro e wz ⟨rfl, hwz⟩
        subst hwz
        refine hK.out _ _ ⟨y0_1, y1_1⟩ (fun hHeld2 => ?_)
        clear hK K
        try simp only [Act.put, List.setIfInBounds_toArray, List.set_cons_zero, List.set_cons_succ, List.getElem_toArray, List.getElem_cons_succ, List.getElem_cons_zero]
        refine wpAnyH_ready (rs := [7, 9]) (by kernel_rfl) (by simp) ?_
        refine AllReadyH.cons rfl (fun K hK => ?_) ?_
        · go_simp
          refine (HP2.out W1).mono ?_
          rintro e W2 ⟨vV, rfl, hoV, hb2⟩
          have HOV := Lib.hid (sl_of_own hoV)
          obtain ⟨aoV, cV, rfl, -, -, -⟩ := own_shape hoV
          clear hoV
          have HB_2 := Lib.hid hb2
          have hl_2 : bx < W2.heap.size := Nat.lt_of_lt_of_le hl_1 hb2.size
          have y0_2 : W2.cell? ⟨bx, 0, none⟩ = some (.int .i64 T) := (hb2.cell (p := ⟨bx, 0, none⟩) hl_1).trans y0_1
          have y1_2 : W2.cell? ⟨bx, 1, none⟩ = some (.int .i64 V) := (hb2.cell (p := ⟨bx, 1, none⟩) hl_1).trans y1_1
          clear hb2
          refine hK.out _ _ ⟨y0_2, y1_2⟩ (fun hHeld2 => ?_)
          clear hK K
          try simp only [Act.put, List.setIfInBounds_toArray, List.set_cons_zero, List.set_cons_succ, List.getElem_toArray, List.getElem_cons_succ, List.getElem_cons_zero]
          refine wpAnyH_ready (rs := [9]) (by kernel_rfl) (by simp) ?_
          refine AllReadyH.cons rfl (fun K hK => ?_) ?_
          · obtain ⟨vC, hcv, hoC, hb3⟩ := HCV.out W2
            obtain ⟨aoC, ccC, rfl, -, -, -⟩ := hoC.shape
            have hcv := hcv _ rfl
            have HOC := Lib.hid hoC
            clear hoC
            generalize Lib.bytesWorld W2 5 TX = W3 at *
            go_simp
            clear hcv
            have HB_3 := Lib.hid hb3
            have hl_3 : bx < W3.heap.size := Nat.lt_of_lt_of_le hl_2 hb3.size
            have y0_3 : W3.cell? ⟨bx, 0, none⟩ = some (.int .i64 T) := (hb3.cell (p := ⟨bx, 0, none⟩) hl_2).trans y0_2
            have y1_3 : W3.cell? ⟨bx, 1, none⟩ = some (.int .i64 V) := (hb3.cell (p := ⟨bx, 1, none⟩) hl_2).trans y1_2
            clear hb3
            refine hK.out _ _ ⟨y0_3, y1_3⟩ (fun hHeld2 => ?_)
            clear hK K
            try simp only [Act.put, List.setIfInBounds_toArray, List.set_cons_zero, List.set_cons_succ, List.getElem_toArray, List.getElem_cons_succ, List.getElem_cons_zero]
            have HW : Hid (Below W0.heap.size W0 W3) := Lib.hid (((HB_1.out).trans (HB_2.out.mono (HB_1.out).size)).trans (HB_3.out.mono ((HB_1.out).trans (HB_2.out.mono (HB_1.out).size)).size))
            have HST := Lib.hid (HOT.out.below ((HB_2.out).trans (HB_3.out.mono (HB_2.out).size)))
            have HSV := Lib.hid (HOV.out.below (HB_3.out))
            have HSC := Lib.hid (HOC.out.below (Below.refl _ _))
            refine wpAnyH_ready (rs := [10]) (by kernel_rfl) (by simp) ?_
            refine AllReadyH.cons rfl (fun K hK => ?_) AllReadyH.nil
            go_simp
            obtain ⟨WA, hWA⟩ : ∃ x, x = W3.alloc (Obj.cells #[.slice aoT bt.length cT, .slice aoV bv.length cV, .slice aoC (bI tl).length ccC] 45) := ⟨_, rfl⟩
            have hbA : Below W3.heap.size W3 WA := by rw [hWA]; exact (Below.refl _ _).alloc (Nat.le_refl _) _
            have hboxA : WA.heap[W3.heap.size]? = some (.cells #[.slice aoT bt.length cT, .slice aoV bv.length cV, .slice aoC (bI tl).length ccC] 45 (0, 0)) := by rw [hWA]; exact heap_alloc_new _ _
            have HSP := Lib.hid (sp3 hboxA (HST.out.below hbA) (HSV.out.below hbA) (HSC.out.below hbA))
            have a0 : WA.cell? ⟨bx, 0, none⟩ = some (.int .i64 T) := (hbA.cell (p := ⟨bx, 0, none⟩) hl_3).trans y0_3
            have a1 : WA.cell? ⟨bx, 1, none⟩ = some (.int .i64 V) := (hbA.cell (p := ⟨bx, 1, none⟩) hl_3).trans y1_3
            have HBF : Hid (Below w.heap.size w WA) := Lib.hid ((HB0.out.trans (HW.out.mono HB0.out.size)).trans (hbA.mono (Nat.le_trans HB0.out.size HW.out.size)))
            rw [← hWA]
            refine hK.out _ _ ⟨a0, a1⟩ (fun hHeld2 => ?_)
            clear hK K hboxA hbA hWA
            try simp only [Act.put, List.setIfInBounds_toArray, List.set_cons_zero, List.set_cons_succ, List.getElem_toArray, List.getElem_cons_succ, List.getElem_cons_zero]
            have HCAT := Lib.hid (CatB.concat_any _ [bt, bv, bI tl] WA HSP.out (by intro l hl; simp at hl; have h1 := HLN.out; have h2 := HTN.out; have h3 := bI_len tl; rcases hl with rfl | rfl | rfl <;> omega) (by simp))
            rw [← HEN.out] at HCAT
            refine wpAnyH_ready (rs := [11]) (by kernel_rfl) (by simp) ?_
            refine AllReadyH.cons rfl (fun K hK => ?_) AllReadyH.nil
            go_simp
            refine HCAT.out.mono ?_
            rintro e WZ ⟨vZ, rfl, hoZ, hbZ⟩
            have HOZ := Lib.hid hoZ
            have HBZ := Lib.hid (HBF.out.trans (hbZ.mono HBF.out.size))
            have z0 : WZ.cell? ⟨bx, 0, none⟩ = some (.int .i64 T) := (hbZ.cell (cell_lt a0)).trans a0
            have z1 : WZ.cell? ⟨bx, 1, none⟩ = some (.int .i64 V) := (hbZ.cell (cell_lt a1)).trans a1
            clear hoZ hbZ
            refine hK.out _ _ ⟨z0, z1⟩ (fun hHeld2 => ?_)
            clear hK K
            try simp only [Act.put, List.setIfInBounds_toArray, List.set_cons_zero, List.set_cons_succ, List.getElem_toArray, List.getElem_cons_succ, List.getElem_cons_zero]
            refine wpAnyH_take (i := 12) (v := ?v12_6) rfl (by kernel_rfl) (by kernel_rfl) (by kernel_rfl) (fun _ _ _ h => h) (Or.inl ⟨by rfl, ?hy12_6⟩) ⟨z0, z1⟩ ?rest12_6
            case hy12_6 => (intro w hSw; (try dsimp only at hSw); go_simp; (try with_reducible rfl))
            case rest12_6 =>
            try simp only [Act.put, List.setIfInBounds_toArray, List.set_cons_zero, List.set_cons_succ, List.getElem_toArray, List.getElem_cons_succ, List.getElem_cons_zero]
            refine wpAnyH_take (i := 13) (v := ?v13_7) rfl (by kernel_rfl) (by kernel_rfl) (by kernel_rfl) (fun _ _ _ h => h) (Or.inl ⟨by rfl, ?hy13_7⟩) ⟨z0, z1⟩ ?rest13_7
            case hy13_7 => (intro w hSw; (try dsimp only at hSw); go_simp; (try with_reducible rfl))
            case rest13_7 =>
            try simp only [Act.put, List.setIfInBounds_toArray, List.set_cons_zero, List.set_cons_succ, List.getElem_toArray, List.getElem_cons_succ, List.getElem_cons_zero]
            refine wpAnyH_done (by kernel_rfl) ?_ _
            refine NoPanic.normal ?_
            go_wp2_with fail
            go_ret2
            refine ⟨HBZ.out, ?_⟩
            rw [HN.out.1]
            exact ⟨_, rfl, own_mono HOZ.out HBF.out.size⟩
          exact AllReadyH.nil
        refine AllReadyH.cons rfl (fun K hK => ?_) ?_
        · obtain ⟨vC, hcv, hoC, hb2⟩ := HCV.out W1
          obtain ⟨aoC, ccC, rfl, -, -, -⟩ := hoC.shape
          have hcv := hcv _ rfl
          have HOC := Lib.hid hoC
          clear hoC
          generalize Lib.bytesWorld W1 5 TX = W2 at *
          go_simp
          clear hcv
          have HB_2 := Lib.hid hb2
          have hl_2 : bx < W2.heap.size := Nat.lt_of_lt_of_le hl_1 hb2.size
          have y0_2 : W2.cell? ⟨bx, 0, none⟩ = some (.int .i64 T) := (hb2.cell (p := ⟨bx, 0, none⟩) hl_1).trans y0_1
          have y1_2 : W2.cell? ⟨bx, 1, none⟩ = some (.int .i64 V) := (hb2.cell (p := ⟨bx, 1, none⟩) hl_1).trans y1_1
          clear hb2
          refine hK.out _ _ ⟨y0_2, y1_2⟩ (fun hHeld2 => ?_)
          clear hK K
          try simp only [Act.put, List.setIfInBounds_toArray, List.set_cons_zero, List.set_cons_succ, List.getElem_toArray, List.getElem_cons_succ, List.getElem_cons_zero]
          refine wpAnyH_ready (rs := [7]) (by kernel_rfl) (by simp) ?_
          refine AllReadyH.cons rfl (fun K hK => ?_) ?_
          · go_simp
            refine (HP2.out W2).mono ?_
            rintro e W3 ⟨vV, rfl, hoV, hb3⟩
            have HOV := Lib.hid (sl_of_own hoV)
            obtain ⟨aoV, cV, rfl, -, -, -⟩ := own_shape hoV
            clear hoV
            have HB_3 := Lib.hid hb3
            have hl_3 : bx < W3.heap.size := Nat.lt_of_lt_of_le hl_2 hb3.size
            have y0_3 : W3.cell? ⟨bx, 0, none⟩ = some (.int .i64 T) := (hb3.cell (p := ⟨bx, 0, none⟩) hl_2).trans y0_2
            have y1_3 : W3.cell? ⟨bx, 1, none⟩ = some (.int .i64 V) := (hb3.cell (p := ⟨bx, 1, none⟩) hl_2).trans y1_2
            clear hb3
            refine hK.out _ _ ⟨y0_3, y1_3⟩ (fun hHeld2 => ?_)
            clear hK K
            try simp only [Act.put, List.setIfInBounds_toArray, List.set_cons_zero, List.set_cons_succ, List.getElem_toArray, List.getElem_cons_succ, List.getElem_cons_zero]
            have HW : Hid (Below W0.heap.size W0 W3) := Lib.hid (((HB_1.out).trans (HB_2.out.mono (HB_1.out).size)).trans (HB_3.out.mono ((HB_1.out).trans (HB_2.out.mono (HB_1.out).size)).size))
            have HST := Lib.hid (HOT.out.below ((HB_2.out).trans (HB_3.out.mono (HB_2.out).size)))
            have HSC := Lib.hid (HOC.out.below (HB_3.out))
            have HSV := Lib.hid (HOV.out.below (Below.refl _ _))
            refine wpAnyH_ready (rs := [10]) (by kernel_rfl) (by simp) ?_
            refine AllReadyH.cons rfl (fun K hK => ?_) AllReadyH.nil
            go_simp
            obtain ⟨WA, hWA⟩ : ∃ x, x = W3.alloc (Obj.cells #[.slice aoT bt.length cT, .slice aoV bv.length cV, .slice aoC (bI tl).length ccC] 45) := ⟨_, rfl⟩
            have hbA : Below W3.heap.size W3 WA := by rw [hWA]; exact (Below.refl _ _).alloc (Nat.le_refl _) _
            have hboxA : WA.heap[W3.heap.size]? = some (.cells #[.slice aoT bt.length cT, .slice aoV bv.length cV, .slice aoC (bI tl).length ccC] 45 (0, 0)) := by rw [hWA]; exact heap_alloc_new _ _
            have HSP := Lib.hid (sp3 hboxA (HST.out.below hbA) (HSV.out.below hbA) (HSC.out.below hbA))
            have a0 : WA.cell? ⟨bx, 0, none⟩ = some (.int .i64 T) := (hbA.cell (p := ⟨bx, 0, none⟩) hl_3).trans y0_3
            have a1 : WA.cell? ⟨bx, 1, none⟩ = some (.int .i64 V) := (hbA.cell (p := ⟨bx, 1, none⟩) hl_3).trans y1_3
            have HBF : Hid (Below w.heap.size w WA) := Lib.hid ((HB0.out.trans (HW.out.mono HB0.out.size)).trans (hbA.mono (Nat.le_trans HB0.out.size HW.out.size)))
            rw [← hWA]
            refine hK.out _ _ ⟨a0, a1⟩ (fun hHeld2 => ?_)
            clear hK K hboxA hbA hWA
            try simp only [Act.put, List.setIfInBounds_toArray, List.set_cons_zero, List.set_cons_succ, List.getElem_toArray, List.getElem_cons_succ, List.getElem_cons_zero]
            have HCAT := Lib.hid (CatB.concat_any _ [bt, bv, bI tl] WA HSP.out (by intro l hl; simp at hl; have h1 := HLN.out; have h2 := HTN.out; have h3 := bI_len tl; rcases hl with rfl | rfl | rfl <;> omega) (by simp))
            rw [← HEN.out] at HCAT
            refine wpAnyH_ready (rs := [11]) (by kernel_rfl) (by simp) ?_
            refine AllReadyH.cons rfl (fun K hK => ?_) AllReadyH.nil
            go_simp
            refine HCAT.out.mono ?_
            rintro e WZ ⟨vZ, rfl, hoZ, hbZ⟩
            have HOZ := Lib.hid hoZ
            have HBZ := Lib.hid (HBF.out.trans (hbZ.mono HBF.out.size))
            have z0 : WZ.cell? ⟨bx, 0, none⟩ = some (.int .i64 T) := (hbZ.cell (cell_lt a0)).trans a0
            have z1 : WZ.cell? ⟨bx, 1, none⟩ = some (.int .i64 V) := (hbZ.cell (cell_lt a1)).trans a1
            clear hoZ hbZ
            refine hK.out _ _ ⟨z0, z1⟩ (fun hHeld2 => ?_)
            clear hK K
            try simp only [Act.put, List.setIfInBounds_toArray, List.set_cons_zero, List.set_cons_succ, List.getElem_toArray, List.getElem_cons_succ, List.getElem_cons_zero]
            refine wpAnyH_take (i := 12) (v := ?v12_8) rfl (by kernel_rfl) (by kernel_rfl) (by kernel_rfl) (fun _ _ _ h => h) (Or.inl ⟨by rfl, ?hy12_8⟩) ⟨z0, z1⟩ ?rest12_8
            case hy12_8 => (intro w hSw; (try dsimp only at hSw); go_simp; (try with_reducible rfl))
            case rest12_8 =>
            try simp only [Act.put, List.setIfInBounds_toArray, List.set_cons_zero, List.set_cons_succ, List.getElem_toArray, List.getElem_cons_succ, List.getElem_cons_zero]
            refine wpAnyH_take (i := 13) (v := ?v13_9) rfl (by kernel_rfl) (by kernel_rfl) (by kernel_rfl) (fun _ _ _ h => h) (Or.inl ⟨by rfl, ?hy13_9⟩) ⟨z0, z1⟩ ?rest13_9
            case hy13_9 => (intro w hSw; (try dsimp only at hSw); go_simp; (try with_reducible rfl))
            case rest13_9 =>
            try simp only [Act.put, List.setIfInBounds_toArray, List.set_cons_zero, List.set_cons_succ, List.getElem_toArray, List.getElem_cons_succ, List.getElem_cons_zero]
            refine wpAnyH_done (by kernel_rfl) ?_ _
            refine NoPanic.normal ?_
            go_wp2_with fail
            go_ret2
            refine ⟨HBZ.out, ?_⟩
            rw [HN.out.1]
            exact ⟨_, rfl, own_mono HOZ.out HBF.out.size⟩
          exact AllReadyH.nil
        exact AllReadyH.nil
      refine AllReadyH.cons rfl (fun K hK => ?_) ?_
      · obtain ⟨vC, hcv, hoC, hb2⟩ := HCV.out W1
        obtain ⟨aoC, ccC, rfl, -, -, -⟩ := hoC.shape
        have hcv := hcv _ rfl
        have HOC := Lib.hid hoC
        clear hoC
        generalize Lib.bytesWorld W1 5 TX = W2 at *
        go_simp
        clear hcv
        have HB_2 := Lib.hid hb2
        have hl_2 : bx < W2.heap.size := Nat.lt_of_lt_of_le hl_1 hb2.size
        have y0_2 : W2.cell? ⟨bx, 0, none⟩ = some (.int .i64 T) := (hb2.cell (p := ⟨bx, 0, none⟩) hl_1).trans y0_1
        have y1_2 : W2.cell? ⟨bx, 1, none⟩ = some (.int .i64 V) := (hb2.cell (p := ⟨bx, 1, none⟩) hl_1).trans y1_1
        clear hb2
        refine hK.out _ _ ⟨y0_2, y1_2⟩ (fun hHeld2 => ?_)
        clear hK K
        try simp only [Act.put, List.setIfInBounds_toArray, List.set_cons_zero, List.set_cons_succ, List.getElem_toArray, List.getElem_cons_succ, List.getElem_cons_zero]
        refine wpAnyH_ready (rs := [6]) (by kernel_rfl) (by simp) ?_
        refine AllReadyH.cons rfl (fun K hK => ?_) ?_
        · go_simp
          refine (HZ2.out W2).mono ?_
          rintro e wz ⟨rfl, hwz⟩
          subst hwz
          refine hK.out _ _ ⟨y0_2, y1_2⟩ (fun hHeld2 => ?_)
          clear hK K
          try simp only [Act.put, List.setIfInBounds_toArray, List.set_cons_zero, List.set_cons_succ, List.getElem_toArray, List.getElem_cons_succ, List.getElem_cons_zero]
          refine wpAnyH_ready (rs := [7]) (by kernel_rfl) (by simp) ?_
          refine AllReadyH.cons rfl (fun K hK => ?_) ?_
          · go_simp
            refine (HP2.out W2).mono ?_
            rintro e W3 ⟨vV, rfl, hoV, hb3⟩
            have HOV := Lib.hid (sl_of_own hoV)
            obtain ⟨aoV, cV, rfl, -, -, -⟩ := own_shape hoV
            clear hoV
            have HB_3 := Lib.hid hb3
            have hl_3 : bx < W3.heap.size := Nat.lt_of_lt_of_le hl_2 hb3.size
            have y0_3 : W3.cell? ⟨bx, 0, none⟩ = some (.int .i64 T) := (hb3.cell (p := ⟨bx, 0, none⟩) hl_2).trans y0_2
            have y1_3 : W3.cell? ⟨bx, 1, none⟩ = some (.int .i64 V) := (hb3.cell (p := ⟨bx, 1, none⟩) hl_2).trans y1_2
            clear hb3
            refine hK.out _ _ ⟨y0_3, y1_3⟩ (fun hHeld2 => ?_)
            clear hK K
            try simp only [Act.put, List.setIfInBounds_toArray, List.set_cons_zero, List.set_cons_succ, List.getElem_toArray, List.getElem_cons_succ, List.getElem_cons_zero]
            have HW : Hid (Below W0.heap.size W0 W3) := Lib.hid (((HB_1.out).trans (HB_2.out.mono (HB_1.out).size)).trans (HB_3.out.mono ((HB_1.out).trans (HB_2.out.mono (HB_1.out).size)).size))
            have HST := Lib.hid (HOT.out.below ((HB_2.out).trans (HB_3.out.mono (HB_2.out).size)))
            have HSC := Lib.hid (HOC.out.below (HB_3.out))
            have HSV := Lib.hid (HOV.out.below (Below.refl _ _))
            refine wpAnyH_ready (rs := [10]) (by kernel_rfl) (by simp) ?_
            refine AllReadyH.cons rfl (fun K hK => ?_) AllReadyH.nil
            go_simp
            obtain ⟨WA, hWA⟩ : ∃ x, x = W3.alloc (Obj.cells #[.slice aoT bt.length cT, .slice aoV bv.length cV, .slice aoC (bI tl).length ccC] 45) := ⟨_, rfl⟩
            have hbA : Below W3.heap.size W3 WA := by rw [hWA]; exact (Below.refl _ _).alloc (Nat.le_refl _) _
            have hboxA : WA.heap[W3.heap.size]? = some (.cells #[.slice aoT bt.length cT, .slice aoV bv.length cV, .slice aoC (bI tl).length ccC] 45 (0, 0)) := by rw [hWA]; exact heap_alloc_new _ _
            have HSP := Lib.hid (sp3 hboxA (HST.out.below hbA) (HSV.out.below hbA) (HSC.out.below hbA))
            have a0 : WA.cell? ⟨bx, 0, none⟩ = some (.int .i64 T) := (hbA.cell (p := ⟨bx, 0, none⟩) hl_3).trans y0_3
            have a1 : WA.cell? ⟨bx, 1, none⟩ = some (.int .i64 V) := (hbA.cell (p := ⟨bx, 1, none⟩) hl_3).trans y1_3
            have HBF : Hid (Below w.heap.size w WA) := Lib.hid ((HB0.out.trans (HW.out.mono HB0.out.size)).trans (hbA.mono (Nat.le_trans HB0.out.size HW.out.size)))
            rw [← hWA]
            refine hK.out _ _ ⟨a0, a1⟩ (fun hHeld2 => ?_)
            clear hK K hboxA hbA hWA
            try simp only [Act.put, List.setIfInBounds_toArray, List.set_cons_zero, List.set_cons_succ, List.getElem_toArray, List.getElem_cons_succ, List.getElem_cons_zero]
            have HCAT := Lib.hid (CatB.concat_any _ [bt, bv, bI tl] WA HSP.out (by intro l hl; simp at hl; have h1 := HLN.out; have h2 := HTN.out; have h3 := bI_len tl; rcases hl with rfl | rfl | rfl <;> omega) (by simp))
            rw [← HEN.out] at HCAT
            refine wpAnyH_ready (rs := [11]) (by kernel_rfl) (by simp) ?_
            refine AllReadyH.cons rfl (fun K hK => ?_) AllReadyH.nil
            go_simp
            refine HCAT.out.mono ?_
            rintro e WZ ⟨vZ, rfl, hoZ, hbZ⟩
            have HOZ := Lib.hid hoZ
            have HBZ := Lib.hid (HBF.out.trans (hbZ.mono HBF.out.size))
            have z0 : WZ.cell? ⟨bx, 0, none⟩ = some (.int .i64 T) := (hbZ.cell (cell_lt a0)).trans a0
            have z1 : WZ.cell? ⟨bx, 1, none⟩ = some (.int .i64 V) := (hbZ.cell (cell_lt a1)).trans a1
            clear hoZ hbZ
            refine hK.out _ _ ⟨z0, z1⟩ (fun hHeld2 => ?_)
            clear hK K
            try simp only [Act.put, List.setIfInBounds_toArray, List.set_cons_zero, List.set_cons_succ, List.getElem_toArray, List.getElem_cons_succ, List.getElem_cons_zero]
            refine wpAnyH_take (i := 12) (v := ?v12_10) rfl (by kernel_rfl) (by kernel_rfl) (by kernel_rfl) (fun _ _ _ h => h) (Or.inl ⟨by rfl, ?hy12_10⟩) ⟨z0, z1⟩ ?rest12_10
            case hy12_10 => (intro w hSw; (try dsimp only at hSw); go_simp; (try with_reducible rfl))
            case rest12_10 =>
            try simp only [Act.put, List.setIfInBounds_toArray, List.set_cons_zero, List.set_cons_succ, List.getElem_toArray, List.getElem_cons_succ, List.getElem_cons_zero]
            refine wpAnyH_take (i := 13) (v := ?v13_11) rfl (by kernel_rfl) (by kernel_rfl) (by kernel_rfl) (fun _ _ _ h => h) (Or.inl ⟨by rfl, ?hy13_11⟩) ⟨z0, z1⟩ ?rest13_11
            case hy13_11 => (intro w hSw; (try dsimp only at hSw); go_simp; (try with_reducible rfl))
            case rest13_11 =>
            try simp only [Act.put, List.setIfInBounds_toArray, List.set_cons_zero, List.set_cons_succ, List.getElem_toArray, List.getElem_cons_succ, List.getElem_cons_zero]
            refine wpAnyH_done (by kernel_rfl) ?_ _
            refine NoPanic.normal ?_
            go_wp2_with fail
            go_ret2
            refine ⟨HBZ.out, ?_⟩
            rw [HN.out.1]
            exact ⟨_, rfl, own_mono HOZ.out HBF.out.size⟩
          exact AllReadyH.nil
        exact AllReadyH.nil
      exact AllReadyH.nil
    refine AllReadyH.cons rfl (fun K hK => ?_) ?_
    · obtain ⟨vC, hcv, hoC, hb1⟩ := HCV.out W0
      obtain ⟨aoC, ccC, rfl, -, -, -⟩ := hoC.shape
      have hcv := hcv _ rfl
      have HOC := Lib.hid hoC
      clear hoC
      generalize Lib.bytesWorld W0 5 TX = W1 at *
      go_simp
      clear hcv
      have HB_1 := Lib.hid hb1
      have hl_1 : bx < W1.heap.size := Nat.lt_of_lt_of_le hl0 hb1.size
      have y0_1 : W1.cell? ⟨bx, 0, none⟩ = some (.int .i64 T) := (hb1.cell (p := ⟨bx, 0, none⟩) hl0).trans x0
      have y1_1 : W1.cell? ⟨bx, 1, none⟩ = some (.int .i64 V) := (hb1.cell (p := ⟨bx, 1, none⟩) hl0).trans x1
      clear hb1
      refine hK.out _ _ ⟨y0_1, y1_1⟩ (fun hHeld2 => ?_)
      clear hK K
      try simp only [Act.put, List.setIfInBounds_toArray, List.set_cons_zero, List.set_cons_succ, List.getElem_toArray, List.getElem_cons_succ, List.getElem_cons_zero]
      refine wpAnyH_ready (rs := [3]) (by kernel_rfl) (by simp) ?_
      refine AllReadyH.cons rfl (fun K hK => ?_) ?_
      · go_simp
        refine (HP1.out W1).mono ?_
        rintro e W2 ⟨vT, rfl, hoT, hb2⟩
        have HOT := Lib.hid (sl_of_own hoT)
        obtain ⟨aoT, cT, rfl, -, -, -⟩ := own_shape hoT
        clear hoT
        have HB_2 := Lib.hid hb2
        have hl_2 : bx < W2.heap.size := Nat.lt_of_lt_of_le hl_1 hb2.size
        have y0_2 : W2.cell? ⟨bx, 0, none⟩ = some (.int .i64 T) := (hb2.cell (p := ⟨bx, 0, none⟩) hl_1).trans y0_1
        have y1_2 : W2.cell? ⟨bx, 1, none⟩ = some (.int .i64 V) := (hb2.cell (p := ⟨bx, 1, none⟩) hl_1).trans y1_1
        clear hb2
        refine hK.out _ _ ⟨y0_2, y1_2⟩ (fun hHeld2 => ?_)
        clear hK K
        try simp only [Act.put, List.setIfInBounds_toArray, List.set_cons_zero, List.set_cons_succ, List.getElem_toArray, List.getElem_cons_succ, List.getElem_cons_zero]
        refine wpAnyH_ready (rs := [6]) (by kernel_rfl) (by simp) ?_
        refine AllReadyH.cons rfl (fun K hK => ?_) ?_
        · go_simp
          refine (HZ2.out W2).mono ?_
          rintro e wz ⟨rfl, hwz⟩
          subst hwz
          refine hK.out _ _ ⟨y0_2, y1_2⟩ (fun hHeld2 => ?_)
          clear hK K
          try simp only [Act.put, List.setIfInBounds_toArray, List.set_cons_zero, List.set_cons_succ, List.getElem_toArray, List.getElem_cons_succ, List.getElem_cons_zero]
          refine wpAnyH_ready (rs := [7]) (by kernel_rfl) (by simp) ?_
          refine AllReadyH.cons rfl (fun K hK => ?_) ?_
          · go_simp
            refine (HP2.out W2).mono ?_
            rintro e W3 ⟨vV, rfl, hoV, hb3⟩
            have HOV := Lib.hid (sl_of_own hoV)
            obtain ⟨aoV, cV, rfl, -, -, -⟩ := own_shape hoV
            clear hoV
            have HB_3 := Lib.hid hb3
            have hl_3 : bx < W3.heap.size := Nat.lt_of_lt_of_le hl_2 hb3.size
            have y0_3 : W3.cell? ⟨bx, 0, none⟩ = some (.int .i64 T) := (hb3.cell (p := ⟨bx, 0, none⟩) hl_2).trans y0_2
            have y1_3 : W3.cell? ⟨bx, 1, none⟩ = some (.int .i64 V) := (hb3.cell (p := ⟨bx, 1, none⟩) hl_2).trans y1_2
            clear hb3
            refine hK.out _ _ ⟨y0_3, y1_3⟩ (fun hHeld2 => ?_)
            clear hK K
            try simp only [Act.put, List.setIfInBounds_toArray, List.set_cons_zero, List.set_cons_succ, List.getElem_toArray, List.getElem_cons_succ, List.getElem_cons_zero]
            have HW : Hid (Below W0.heap.size W0 W3) := Lib.hid (((HB_1.out).trans (HB_2.out.mono (HB_1.out).size)).trans (HB_3.out.mono ((HB_1.out).trans (HB_2.out.mono (HB_1.out).size)).size))
            have HSC := Lib.hid (HOC.out.below ((HB_2.out).trans (HB_3.out.mono (HB_2.out).size)))
            have HST := Lib.hid (HOT.out.below (HB_3.out))
            have HSV := Lib.hid (HOV.out.below (Below.refl _ _))
            refine wpAnyH_ready (rs := [10]) (by kernel_rfl) (by simp) ?_
            refine AllReadyH.cons rfl (fun K hK => ?_) AllReadyH.nil
            go_simp
            obtain ⟨WA, hWA⟩ : ∃ x, x = W3.alloc (Obj.cells #[.slice aoT bt.length cT, .slice aoV bv.length cV, .slice aoC (bI tl).length ccC] 45) := ⟨_, rfl⟩
            have hbA : Below W3.heap.size W3 WA := by rw [hWA]; exact (Below.refl _ _).alloc (Nat.le_refl _) _
            have hboxA : WA.heap[W3.heap.size]? = some (.cells #[.slice aoT bt.length cT, .slice aoV bv.length cV, .slice aoC (bI tl).length ccC] 45 (0, 0)) := by rw [hWA]; exact heap_alloc_new _ _
            have HSP := Lib.hid (sp3 hboxA (HST.out.below hbA) (HSV.out.below hbA) (HSC.out.below hbA))
            have a0 : WA.cell? ⟨bx, 0, none⟩ = some (.int .i64 T) := (hbA.cell (p := ⟨bx, 0, none⟩) hl_3).trans y0_3
            have a1 : WA.cell? ⟨bx, 1, none⟩ = some (.int .i64 V) := (hbA.cell (p := ⟨bx, 1, none⟩) hl_3).trans y1_3
            have HBF : Hid (Below w.heap.size w WA) := Lib.hid ((HB0.out.trans (HW.out.mono HB0.out.size)).trans (hbA.mono (Nat.le_trans HB0.out.size HW.out.size)))
            rw [← hWA]
            refine hK.out _ _ ⟨a0, a1⟩ (fun hHeld2 => ?_)
            clear hK K hboxA hbA hWA
            try simp only [Act.put, List.setIfInBounds_toArray, List.set_cons_zero, List.set_cons_succ, List.getElem_toArray, List.getElem_cons_succ, List.getElem_cons_zero]
            have HCAT := Lib.hid (CatB.concat_any _ [bt, bv, bI tl] WA HSP.out (by intro l hl; simp at hl; have h1 := HLN.out; have h2 := HTN.out; have h3 := bI_len tl; rcases hl with rfl | rfl | rfl <;> omega) (by simp))
            rw [← HEN.out] at HCAT
            refine wpAnyH_ready (rs := [11]) (by kernel_rfl) (by simp) ?_
            refine AllReadyH.cons rfl (fun K hK => ?_) AllReadyH.nil
            go_simp
            refine HCAT.out.mono ?_
            rintro e WZ ⟨vZ, rfl, hoZ, hbZ⟩
            have HOZ := Lib.hid hoZ
            have HBZ := Lib.hid (HBF.out.trans (hbZ.mono HBF.out.size))
            have z0 : WZ.cell? ⟨bx, 0, none⟩ = some (.int .i64 T) := (hbZ.cell (cell_lt a0)).trans a0
            have z1 : WZ.cell? ⟨bx, 1, none⟩ = some (.int .i64 V) := (hbZ.cell (cell_lt a1)).trans a1
            clear hoZ hbZ
            refine hK.out _ _ ⟨z0, z1⟩ (fun hHeld2 => ?_)
            clear hK K
            try simp only [Act.put, List.setIfInBounds_toArray, List.set_cons_zero, List.set_cons_succ, List.getElem_toArray, List.getElem_cons_succ, List.getElem_cons_zero]
            refine wpAnyH_take (i := 12) (v := ?v12_12) rfl (by kernel_rfl) (by kernel_rfl) (by kernel_rfl) (fun _ _ _ h => h) (Or.inl ⟨by rfl, ?hy12_12⟩) ⟨z0, z1⟩ ?rest12_12
            case hy12_12 => (intro w hSw; (try dsimp only at hSw); go_simp; (try with_reducible rfl))
            case rest12_12 =>
            try simp only [Act.put, List.setIfInBounds_toArray, List.set_cons_zero, List.set_cons_succ, List.getElem_toArray, List.getElem_cons_succ, List.getElem_cons_zero]
            refine wpAnyH_take (i := 13) (v := ?v13_13) rfl (by kernel_rfl) (by kernel_rfl) (by kernel_rfl) (fun _ _ _ h => h) (Or.inl ⟨by rfl, ?hy13_13⟩) ⟨z0, z1⟩ ?rest13_13
            case hy13_13 => (intro w hSw; (try dsimp only at hSw); go_simp; (try with_reducible rfl))
            case rest13_13 =>
            try simp only [Act.put, List.setIfInBounds_toArray, List.set_cons_zero, List.set_cons_succ, List.getElem_toArray, List.getElem_cons_succ, List.getElem_cons_zero]
            refine wpAnyH_done (by kernel_rfl) ?_ _
            refine NoPanic.normal ?_
            go_wp2_with fail
            go_ret2
            refine ⟨HBZ.out, ?_⟩
            rw [HN.out.1]
            exact ⟨_, rfl, own_mono HOZ.out HBF.out.size⟩
          exact AllReadyH.nil
        exact AllReadyH.nil
      exact AllReadyH.nil
    exact AllReadyH.nil
  refine AllReadyH.cons rfl (fun K hK => ?_) ?_
  · obtain ⟨vC, hcv, hoC, hb1⟩ := HCV.out W0
    obtain ⟨aoC, ccC, rfl, -, -, -⟩ := hoC.shape
    have hcv := hcv _ rfl
    have HOC := Lib.hid hoC
    clear hoC
    generalize Lib.bytesWorld W0 5 TX = W1 at *
    go_simp
    clear hcv
    have HB_1 := Lib.hid hb1
    have hl_1 : bx < W1.heap.size := Nat.lt_of_lt_of_le hl0 hb1.size
    have y0_1 : W1.cell? ⟨bx, 0, none⟩ = some (.int .i64 T) := (hb1.cell (p := ⟨bx, 0, none⟩) hl0).trans x0
    have y1_1 : W1.cell? ⟨bx, 1, none⟩ = some (.int .i64 V) := (hb1.cell (p := ⟨bx, 1, none⟩) hl0).trans x1
    clear hb1
    refine hK.out _ _ ⟨y0_1, y1_1⟩ (fun hHeld2 => ?_)
    clear hK K
    try simp only [Act.put, List.setIfInBounds_toArray, List.set_cons_zero, List.set_cons_succ, List.getElem_toArray, List.getElem_cons_succ, List.getElem_cons_zero]
    refine wpAnyH_ready (rs := [2]) (by kernel_rfl) (by simp) ?_
    refine AllReadyH.cons rfl (fun K hK => ?_) ?_
    · go_simp
      refine (HZ1.out W1).mono ?_
      rintro e wz ⟨rfl, hwz⟩
      subst hwz
      refine hK.out _ _ ⟨y0_1, y1_1⟩ (fun hHeld2 => ?_)
      clear hK K
      try simp only [Act.put, List.setIfInBounds_toArray, List.set_cons_zero, List.set_cons_succ, List.getElem_toArray, List.getElem_cons_succ, List.getElem_cons_zero]
      refine wpAnyH_ready (rs := [3]) (by kernel_rfl) (by simp) ?_
      refine AllReadyH.cons rfl (fun K hK => ?_) ?_
      · go_simp
        refine (HP1.out W1).mono ?_
        rintro e W2 ⟨vT, rfl, hoT, hb2⟩
        have HOT := Lib.hid (sl_of_own hoT)
        obtain ⟨aoT, cT, rfl, -, -, -⟩ := own_shape hoT
        clear hoT
        have HB_2 := Lib.hid hb2
        have hl_2 : bx < W2.heap.size := Nat.lt_of_lt_of_le hl_1 hb2.size
        have y0_2 : W2.cell? ⟨bx, 0, none⟩ = some (.int .i64 T) := (hb2.cell (p := ⟨bx, 0, none⟩) hl_1).trans y0_1
        have y1_2 : W2.cell? ⟨bx, 1, none⟩ = some (.int .i64 V) := (hb2.cell (p := ⟨bx, 1, none⟩) hl_1).trans y1_1
        clear hb2
        refine hK.out _ _ ⟨y0_2, y1_2⟩ (fun hHeld2 => ?_)
        clear hK K
        try simp only [Act.put, List.setIfInBounds_toArray, List.set_cons_zero, List.set_cons_succ, List.getElem_toArray, List.getElem_cons_succ, List.getElem_cons_zero]
        refine wpAnyH_ready (rs := [6]) (by kernel_rfl) (by simp) ?_
        refine AllReadyH.cons rfl (fun K hK => ?_) ?_
        · go_simp
          refine (HZ2.out W2).mono ?_
          rintro e wz ⟨rfl, hwz⟩
          subst hwz
          refine hK.out _ _ ⟨y0_2, y1_2⟩ (fun hHeld2 => ?_)
          clear hK K
          try simp only [Act.put, List.setIfInBounds_toArray, List.set_cons_zero, List.set_cons_succ, List.getElem_toArray, List.getElem_cons_succ, List.getElem_cons_zero]
          refine wpAnyH_ready (rs := [7]) (by kernel_rfl) (by simp) ?_
          refine AllReadyH.cons rfl (fun K hK => ?_) ?_
          · go_simp
            refine (HP2.out W2).mono ?_
            rintro e W3 ⟨vV, rfl, hoV, hb3⟩
            have HOV := Lib.hid (sl_of_own hoV)
            obtain ⟨aoV, cV, rfl, -, -, -⟩ := own_shape hoV
            clear hoV
            have HB_3 := Lib.hid hb3
            have hl_3 : bx < W3.heap.size := Nat.lt_of_lt_of_le hl_2 hb3.size
            have y0_3 : W3.cell? ⟨bx, 0, none⟩ = some (.int .i64 T) := (hb3.cell (p := ⟨bx, 0, none⟩) hl_2).trans y0_2
            have y1_3 : W3.cell? ⟨bx, 1, none⟩ = some (.int .i64 V) := (hb3.cell (p := ⟨bx, 1, none⟩) hl_2).trans y1_2
            clear hb3
            refine hK.out _ _ ⟨y0_3, y1_3⟩ (fun hHeld2 => ?_)
            clear hK K
            try simp only [Act.put, List.setIfInBounds_toArray, List.set_cons_zero, List.set_cons_succ, List.getElem_toArray, List.getElem_cons_succ, List.getElem_cons_zero]
            have HW : Hid (Below W0.heap.size W0 W3) := Lib.hid (((HB_1.out).trans (HB_2.out.mono (HB_1.out).size)).trans (HB_3.out.mono ((HB_1.out).trans (HB_2.out.mono (HB_1.out).size)).size))
            have HSC := Lib.hid (HOC.out.below ((HB_2.out).trans (HB_3.out.mono (HB_2.out).size)))
            have HST := Lib.hid (HOT.out.below (HB_3.out))
            have HSV := Lib.hid (HOV.out.below (Below.refl _ _))
            refine wpAnyH_ready (rs := [10]) (by kernel_rfl) (by simp) ?_
            refine AllReadyH.cons rfl (fun K hK => ?_) AllReadyH.nil
            go_simp
            obtain ⟨WA, hWA⟩ : ∃ x, x = W3.alloc (Obj.cells #[.slice aoT bt.length cT, .slice aoV bv.length cV, .slice aoC (bI tl).length ccC] 45) := ⟨_, rfl⟩
            have hbA : Below W3.heap.size W3 WA := by rw [hWA]; exact (Below.refl _ _).alloc (Nat.le_refl _) _
            have hboxA : WA.heap[W3.heap.size]? = some (.cells #[.slice aoT bt.length cT, .slice aoV bv.length cV, .slice aoC (bI tl).length ccC] 45 (0, 0)) := by rw [hWA]; exact heap_alloc_new _ _
            have HSP := Lib.hid (sp3 hboxA (HST.out.below hbA) (HSV.out.below hbA) (HSC.out.below hbA))
            have a0 : WA.cell? ⟨bx, 0, none⟩ = some (.int .i64 T) := (hbA.cell (p := ⟨bx, 0, none⟩) hl_3).trans y0_3
            have a1 : WA.cell? ⟨bx, 1, none⟩ = some (.int .i64 V) := (hbA.cell (p := ⟨bx, 1, none⟩) hl_3).trans y1_3
            have HBF : Hid (Below w.heap.size w WA) := Lib.hid ((HB0.out.trans (HW.out.mono HB0.out.size)).trans (hbA.mono (Nat.le_trans HB0.out.size HW.out.size)))
            rw [← hWA]
            refine hK.out _ _ ⟨a0, a1⟩ (fun hHeld2 => ?_)
            clear hK K hboxA hbA hWA
            try simp only [Act.put, List.setIfInBounds_toArray, List.set_cons_zero, List.set_cons_succ, List.getElem_toArray, List.getElem_cons_succ, List.getElem_cons_zero]
            have HCAT := Lib.hid (CatB.concat_any _ [bt, bv, bI tl] WA HSP.out (by intro l hl; simp at hl; have h1 := HLN.out; have h2 := HTN.out; have h3 := bI_len tl; rcases hl with rfl | rfl | rfl <;> omega) (by simp))
            rw [← HEN.out] at HCAT
            refine wpAnyH_ready (rs := [11]) (by kernel_rfl) (by simp) ?_
            refine AllReadyH.cons rfl (fun K hK => ?_) AllReadyH.nil
            go_simp
            refine HCAT.out.mono ?_
            rintro e WZ ⟨vZ, rfl, hoZ, hbZ⟩
            have HOZ := Lib.hid hoZ
            have HBZ := Lib.hid (HBF.out.trans (hbZ.mono HBF.out.size))
            have z0 : WZ.cell? ⟨bx, 0, none⟩ = some (.int .i64 T) := (hbZ.cell (cell_lt a0)).trans a0
            have z1 : WZ.cell? ⟨bx, 1, none⟩ = some (.int .i64 V) := (hbZ.cell (cell_lt a1)).trans a1
            clear hoZ hbZ
            refine hK.out _ _ ⟨z0, z1⟩ (fun hHeld2 => ?_)
            clear hK K
            try simp only [Act.put, List.setIfInBounds_toArray, List.set_cons_zero, List.set_cons_succ, List.getElem_toArray, List.getElem_cons_succ, List.getElem_cons_zero]
            refine wpAnyH_take (i := 12) (v := ?v12_14) rfl (by kernel_rfl) (by kernel_rfl) (by kernel_rfl) (fun _ _ _ h => h) (Or.inl ⟨by rfl, ?hy12_14⟩) ⟨z0, z1⟩ ?rest12_14
            case hy12_14 => (intro w hSw; (try dsimp only at hSw); go_simp; (try with_reducible rfl))
            case rest12_14 =>
            try simp only [Act.put, List.setIfInBounds_toArray, List.set_cons_zero, List.set_cons_succ, List.getElem_toArray, List.getElem_cons_succ, List.getElem_cons_zero]
            refine wpAnyH_take (i := 13) (v := ?v13_15) rfl (by kernel_rfl) (by kernel_rfl) (by kernel_rfl) (fun _ _ _ h => h) (Or.inl ⟨by rfl, ?hy13_15⟩) ⟨z0, z1⟩ ?rest13_15
            case hy13_15 => (intro w hSw; (try dsimp only at hSw); go_simp; (try with_reducible rfl))
            case rest13_15 =>
            try simp only [Act.put, List.setIfInBounds_toArray, List.set_cons_zero, List.set_cons_succ, List.getElem_toArray, List.getElem_cons_succ, List.getElem_cons_zero]
            refine wpAnyH_done (by kernel_rfl) ?_ _
            refine NoPanic.normal ?_
            go_wp2_with fail
            go_ret2
            refine ⟨HBZ.out, ?_⟩
            rw [HN.out.1]
            exact ⟨_, rfl, own_mono HOZ.out HBF.out.size⟩
          exact AllReadyH.nil
        exact AllReadyH.nil
      exact AllReadyH.nil
    exact AllReadyH.nil
  exact AllReadyH.nil
end Go.Proofs.YtlfhcjhbnakamaaGreatDoor.Sto
