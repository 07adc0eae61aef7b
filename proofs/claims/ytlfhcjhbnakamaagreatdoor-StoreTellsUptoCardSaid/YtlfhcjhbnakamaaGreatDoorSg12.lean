/-
  A put: the walk of PutBytes (PRINTED by mkst2.py).
-/
import Derived.Test.YtlfhcjhbnakamaaGreatDoorSg9
import Derived.Test.YtlfhcjhbnakamaaGreatDoorSg11
import Derived.Lib.AppendStr
namespace Go.Proofs.YtlfhcjhbnakamaaGreatDoor.Sto
open Go.RowKit Go.Gh Go.Proofs.YtlfhcjhbnakamaaGreatDoor.Bits Go.Proofs.YtlfhcjhbnakamaaGreatDoor.Lab Go.Proofs.YtlfhcjhbnakamaaGreatDoor.Tk
set_option linter.unusedVariables false
set_option linter.unusedSimpArgs false
theorem infoU8' : ∃ i, Tryz.prog.info? 5 = some i ∧ i.zero = some (.int .u8 0) ∧ i.size = 1 ∧ i.bytes = 1 := by
  have h := infoU8
  cases hc : Tryz.prog.info? 5 with
  | none => rw [hc] at h; simp at h
  | some i =>
    rw [hc] at h
    simp at h
    exact ⟨i, rfl, h.1, h.2.1, h.2.2⟩
theorem strCells_mk (l : By) : Lib.strCells (mkS l) = (bI l).map (Value.int .u8) := by
  unfold Lib.strCells mkS bI
  rw [List.map_map, List.toList_toArray]
  rfl
theorem wp_append {P : Program} {o : Oper} {a : Act} {W W' : World} {K : Act → World → Prop} {Q : Exit → Act → World → Prop} {s x : Operand} {t : TypeId} {v y v' : Value} (ho : o.op = .call { callee := .builtin .append, args := #[s, x], argTypes := #[t, t] }) (hs : a.eval s = v) (hxv : a.eval x = y)
    (hr : (Builtin.append_ #[t, t] o.type #[v, y]).run P W = .ok v' W') (h : K (a.put o.dst v') W') : Oper.wp P o a W K Q := by
  unfold Oper.wp execOp
  simp only [ho, resolve, invoke, builtin, Sem.run_bind, Sem.run_pure, Result.andThen_ok, List.map_toArray, List.map_cons, List.map_nil, hs, hxv, hr]
  exact h
set_option maxHeartbeats 4000000 in
set_option maxRecDepth 100000 in
theorem putbytes_any (v : Value) (L : List Lb) (T V : Int) (w : World) (hs : Sp LbR 2 w v L) (h0 : labelF L = 0) (b1 : -9223372036854775808 ≤ T) (b2 : T < 9223372036854775808) (b3 : -9223372036854775808 ≤ V) (b4 : V < 9223372036854775808) : Calls Tryz.prog 23 #[v, .agg #[.int .i64 T, .int .i64 V]] w fun e w' => ∃ v, e = .returned v ∧ w'.ownsRow w.heap.size 5 1 v (encB T V L).length ((encB T V L).map (Value.int .u8)) ∧ Below w.heap.size w w' := by
  obtain ⟨ao, c, rfl, -, -⟩ := hs.shape
  have HTX := Lib.hid (fun W (hb : Below w.heap.size w W) => lbtext_any _ L W (hs.below lbR_mono hb) h0)
  obtain ⟨wa, hwa, hbox, hba, hsa⟩ := box_smp w T V
  have HBA := Lib.hid hba
  have HWA := Lib.hid hwa
  have htl := txt_len h0
  obtain ⟨tl, htn⟩ : ∃ z, textM (asM L) = z := ⟨_, rfl⟩
  have HTE := Lib.hid htn
  rw [htn] at HTX htl
  have HTL := Lib.hid htl
  obtain ⟨n, hn⟩ : ∃ n, L.length = n := ⟨_, rfl⟩
  rw [hn] at HTX ⊢
  have B12 := Lib.hid (zig_bd b1 b2)
  have B34 := Lib.hid (zig_bd b3 b4)
  have HZ1 := Lib.hid (fun W => zigof_any T b1 b2 W)
  have HZ2 := Lib.hid (fun W => zigof_any V b3 b4 W)
  have hp : (18446744073709551616 : Int) ≤ 128 ^ (9 + 1) := by decide
  have HP1 := Lib.hid (fun W => bytesof_any 9 (zigI T) B12.out.1 B12.out.2 (Nat.le_refl _) (Int.lt_of_lt_of_le B12.out.2 hp) W)
  have HP2 := Lib.hid (fun W => bytesof_any 9 (zigI V) B34.out.1 B34.out.2 (Nat.le_refl _) (Int.lt_of_lt_of_le B34.out.2 hp) W)
  obtain ⟨zt, hzt⟩ : ∃ z, zigI T = z := ⟨_, rfl⟩
  obtain ⟨zv, hzv⟩ : ∃ z, zigI V = z := ⟨_, rfl⟩
  have HZT := Lib.hid hzt
  have HZV := Lib.hid hzv
  rw [hzt] at HZ1 HP1
  rw [hzv] at HZ2 HP2
  obtain ⟨bt, hbt⟩ : ∃ z, putI 9 zt = z := ⟨_, rfl⟩
  obtain ⟨bv, hbv⟩ : ∃ z, putI 9 zv = z := ⟨_, rfl⟩
  have HLN : Hid (bt.length ≤ 10 ∧ bv.length ≤ 10) := Lib.hid ⟨by rw [← hbt]; exact (putI_len 9 zt).2, by rw [← hbv]; exact (putI_len 9 zv).2⟩
  have HBT := Lib.hid hbt
  have HBV := Lib.hid hbv
  rw [hbt] at HP1
  rw [hbv] at HP2
  obtain ⟨X, hX⟩ : ∃ X, encB T V L = X := ⟨_, rfl⟩
  have HX : Hid (X = bt ++ bv ++ bI tl) := Lib.hid (by
    rw [← hX, ← HTE.out, ← HBT.out, ← HBV.out, ← HZT.out, ← HZV.out]
    unfold encB
    simp only [List.flatten_cons, List.flatten_nil, List.append_nil, List.append_assoc])
  rw [hX]
  clear hs h0 b1 b2 b3 b4 hX htn htl hn hp hzt hzv hbt hbv hwa hba
  go_enter Tryz.func23, Tryz.ntmps23
  go_upto_region 1 with (fail)
  rw [← HWA.out]
  obtain ⟨bx, hbx⟩ : ∃ bx, w.heap.size = bx := ⟨_, rfl⟩
  rw [hbx] at hbox hsa ⊢
  have HBX := Lib.hid hbx
  clear hbx
  obtain ⟨⟨d0, d1⟩, -⟩ := bx2 hbox
  have x0 : wa.drew.cell? ⟨bx, 0, none⟩ = some (.int .i64 T) := d0
  have x1 : wa.drew.cell? ⟨bx, 1, none⟩ = some (.int .i64 V) := d1
  have HB0 : Hid (Below w.heap.size w wa.drew) := Lib.hid (by have := HBA.out; exact this.drew)
  have hl0 : bx < wa.drew.heap.size := hsa
  clear hbox d0 d1 hsa
  refine wp_region_noPanic ?_
  refine wp_region_held_drew (S := fun w' => w'.cell? ⟨bx, 0, none⟩ = some (.int .i64 T) ∧ w'.cell? ⟨bx, 1, none⟩ = some (.int .i64 V)) (by kernel_rfl) ⟨x0, x1⟩ (fun hHeld => ?_)
  generalize wa.drew = W0 at *
  refine wpAnyH_take (i := 0) (v := ?v0_1) rfl (by kernel_rfl) (by kernel_rfl) (by kernel_rfl) (fun _ _ _ h => h) (Or.inl ⟨by rfl, ?hy0_1⟩) ⟨x0, x1⟩ ?rest0_1
  case hy0_1 => (intro w hSw; (try dsimp only at hSw); go_simp; (try with_reducible rfl))
  case rest0_1 =>
  try simp only [Act.put, List.setIfInBounds_toArray, List.set_cons_zero, List.set_cons_succ, List.getElem_toArray, List.getElem_cons_succ, List.getElem_cons_zero]
  refine wpAnyH_take (i := 1) (v := ?v1_2) rfl (by kernel_rfl) (by kernel_rfl) (by kernel_rfl) (fun _ _ _ h => h) (Or.inl ⟨by rfl, ?hy1_2⟩) ⟨x0, x1⟩ ?rest1_2
  case hy1_2 => (intro w hSw; (try dsimp only at hSw); go_simp; (try with_reducible rfl))
  case rest1_2 =>
  try simp only [Act.put, List.setIfInBounds_toArray, List.set_cons_zero, List.set_cons_succ, List.getElem_toArray, List.getElem_cons_succ, List.getElem_cons_zero]
  refine wpAnyH_take (i := 4) (v := ?v4_3) rfl (by kernel_rfl) (by kernel_rfl) (by kernel_rfl) (fun _ _ _ h => h) (Or.inl ⟨by rfl, ?hy4_3⟩) ⟨x0, x1⟩ ?rest4_3
  case hy4_3 => (intro w hSw; (try dsimp only at hSw); go_simp; (try with_reducible rfl))
  case rest4_3 =>
  try simp only [Act.put, List.setIfInBounds_toArray, List.set_cons_zero, List.set_cons_succ, List.getElem_toArray, List.getElem_cons_succ, List.getElem_cons_zero]
  refine wpAnyH_take (i := 5) (v := ?v5_4) rfl (by kernel_rfl) (by kernel_rfl) (by kernel_rfl) (fun _ _ _ h => h) (Or.inl ⟨by rfl, ?hy5_4⟩) ⟨x0, x1⟩ ?rest5_4
  case hy5_4 => (intro w hSw; (try dsimp only at hSw); go_simp; (try with_reducible rfl))
  case rest5_4 =>
  try simp only [Act.put, List.setIfInBounds_toArray, List.set_cons_zero, List.set_cons_succ, List.getElem_toArray, List.getElem_cons_succ, List.getElem_cons_zero]
  refine wpAnyH_ready (rs := [2]) (by kernel_rfl) (by simp) ?_
  refine AllReadyH.cons rfl (fun K hK => ?_) AllReadyH.nil
  go_simp
  refine (HZ1.out W0).mono ?_
  rintro e wz ⟨rfl, hwz⟩
  subst hwz
  refine hK.out _ _ ⟨x0, x1⟩ (fun hHeld2 => ?_)
  clear hK K
  try simp only [Act.put, List.setIfInBounds_toArray, List.set_cons_zero, List.set_cons_succ, List.getElem_toArray, List.getElem_cons_succ, List.getElem_cons_zero]
  refine wpAnyH_ready (rs := [3]) (by kernel_rfl) (by simp) ?_
  refine AllReadyH.cons rfl (fun K hK => ?_) AllReadyH.nil
  go_simp
  refine (HP1.out W0).mono ?_
  rintro e W1 ⟨vT, rfl, hoT, hb⟩
  have HOT := Lib.hid hoT
  obtain ⟨aoT, cT, rfl, -, -, -⟩ := own_shape hoT
  clear hoT
  have HBTt := Lib.hid hb
  have hl1 : bx < W1.heap.size := Nat.lt_of_lt_of_le hl0 hb.size
  have y0 : W1.cell? ⟨bx, 0, none⟩ = some (.int .i64 T) := (hb.cell (p := ⟨bx, 0, none⟩) hl0).trans x0
  have y1 : W1.cell? ⟨bx, 1, none⟩ = some (.int .i64 V) := (hb.cell (p := ⟨bx, 1, none⟩) hl0).trans x1
  clear hb
  refine hK.out _ _ ⟨y0, y1⟩ (fun hHeld2 => ?_)
  clear hK K
  try simp only [Act.put, List.setIfInBounds_toArray, List.set_cons_zero, List.set_cons_succ, List.getElem_toArray, List.getElem_cons_succ, List.getElem_cons_zero]
  refine wpAnyH_ready (rs := [6]) (by kernel_rfl) (by simp) ?_
  refine AllReadyH.cons rfl (fun K hK => ?_) AllReadyH.nil
  go_simp
  refine (HZ2.out W1).mono ?_
  rintro e wz ⟨rfl, hwz⟩
  subst hwz
  refine hK.out _ _ ⟨y0, y1⟩ (fun hHeld2 => ?_)
  clear hK K
  try simp only [Act.put, List.setIfInBounds_toArray, List.set_cons_zero, List.set_cons_succ, List.getElem_toArray, List.getElem_cons_succ, List.getElem_cons_zero]
  refine wpAnyH_ready (rs := [7]) (by kernel_rfl) (by simp) ?_
  refine AllReadyH.cons rfl (fun K hK => ?_) AllReadyH.nil
  go_simp
  refine (HP2.out W1).mono ?_
  rintro e W2 ⟨vV, rfl, hoV, hb⟩
  have HOV := Lib.hid hoV
  obtain ⟨aoV, cV, rfl, -, -, -⟩ := own_shape hoV
  clear hoV
  have HBVv := Lib.hid hb
  have hl2 : bx < W2.heap.size := Nat.lt_of_lt_of_le hl1 hb.size
  have z0 : W2.cell? ⟨bx, 0, none⟩ = some (.int .i64 T) := (hb.cell (p := ⟨bx, 0, none⟩) hl1).trans y0
  have z1 : W2.cell? ⟨bx, 1, none⟩ = some (.int .i64 V) := (hb.cell (p := ⟨bx, 1, none⟩) hl1).trans y1
  clear hb
  refine hK.out _ _ ⟨z0, z1⟩ (fun hHeld2 => ?_)
  clear hK K
  try simp only [Act.put, List.setIfInBounds_toArray, List.set_cons_zero, List.set_cons_succ, List.getElem_toArray, List.getElem_cons_succ, List.getElem_cons_zero]
  refine wpAnyH_ready (rs := [8]) (by kernel_rfl) (by simp) ?_
  refine AllReadyH.cons rfl (fun K hK => ?_) AllReadyH.nil
  have hoT := own_below HOT.out HBVv.out
  have hB2 : W0.heap.size ≤ W2.heap.size := Nat.le_trans HBTt.out.size HBVv.out.size
  obtain ⟨vS, W3, hr, hoS, hgS⟩ := CatB.run_append_gen (P := Tryz.prog) (t := 45) (ty := 45) elU8 hoT (own_sl HOV.out) (ints_one _ _) (by have := HLN.out; omega) (by have := HLN.out; omega) hB2
  have hb3 : Below W0.heap.size W0 W3 := Below.grown (HBTt.out.trans (HBVv.out.mono HBTt.out.size)) hgS hB2 (fun k hk => (hoT.lt k hk).1)
  have a0 : W3.cell? ⟨bx, 0, none⟩ = some (.int .i64 T) := (hb3.cell (p := ⟨bx, 0, none⟩) hl0).trans x0
  have a1 : W3.cell? ⟨bx, 1, none⟩ = some (.int .i64 V) := (hb3.cell (p := ⟨bx, 1, none⟩) hl0).trans x1
  have HOS := Lib.hid hoS
  have HBS := Lib.hid hb3
  clear hoT hB2 hoS hgS hb3
  rw [if_pos (by rfl)]
  refine wp_append rfl rfl rfl hr ?_
  clear hr
  refine hK.out _ _ ⟨a0, a1⟩ (fun hHeld2 => ?_)
  clear hK K
  try simp only [Act.put, List.setIfInBounds_toArray, List.set_cons_zero, List.set_cons_succ, List.getElem_toArray, List.getElem_cons_succ, List.getElem_cons_zero]
  refine wpAnyH_take (i := 9) (v := ?v9_5) rfl (by kernel_rfl) (by kernel_rfl) (by kernel_rfl) (fun _ _ _ h => h) (Or.inl ⟨by rfl, ?hy9_5⟩) ⟨a0, a1⟩ ?rest9_5
  case hy9_5 => (intro w hSw; (try dsimp only at hSw); go_simp; (try with_reducible rfl))
  case rest9_5 =>
  try simp only [Act.put, List.setIfInBounds_toArray, List.set_cons_zero, List.set_cons_succ, List.getElem_toArray, List.getElem_cons_succ, List.getElem_cons_zero]
  refine wpAnyH_done (by kernel_rfl) ?_ _
  refine NoPanic.normal ?_
  clear x0 x1 y0 y1 z0 z1 a0 a1 hl0 hl1 hl2
  have HBW : Hid (Below w.heap.size w W3) := Lib.hid (HB0.out.trans (HBS.out.mono HB0.out.size))
  have HC := Lib.hid (HTX.out W3 HBW.out)
  obtain ⟨iu, hiu, hzu, hsu, hbu⟩ := infoU8'
  go_wp2_with (first
    | (go_at_call 11; refine HC.out.mono ?_; rintro e w4 ⟨rfl, hb4⟩; have HB4 := Lib.hid hb4; have HO4 := Lib.hid (own_below HOS.out hb4); clear hb4)
    | (at_builtin; refine Lib.wpList_append_own_string _ rfl _ _ _ _ rfl W0.heap.size 5 _ Tryz.underlying45 Tryz.underlying9 hiu hzu hsu hbu _ _ _ rfl HO4.out _ rfl ?c1 ?c2 ?c3 ?_))
  case c1 => have := HLN.out; have := HTL.out; rw [mkS_size]; unfold maxLen; omega
  case c2 => have := HLN.out; have := HTL.out; rw [mkS_size]; omega
  case c3 => exact Nat.le_trans HBS.out.size HB4.out.size
  intro v5 w5 ho5 hg5 _
  have hB4 : Below w.heap.size w w4 := HBW.out.trans (HB4.out.mono HBW.out.size)
  have hb5 : Below w.heap.size w w5 := Below.grown hB4 hg5 hB4.size (fun k hk => Nat.le_trans HB0.out.size (HO4.out.lt k hk).1)
  rw [strCells_mk, mkS_size, ← bI_len tl] at ho5
  have HO5 := Lib.hid ho5
  have HB5 := Lib.hid hb5
  clear ho5 hg5 hB4 hb5
  go_wp2_with fail
  go_ret
  refine ⟨_, rfl, ?_, HB5.out⟩
  rw [HX.out]
  simp only [List.length_append, List.map_append, List.append_assoc]
  have h := own_mono HO5.out HB0.out.size
  rw [Nat.add_assoc] at h
  exact h
end Go.Proofs.YtlfhcjhbnakamaaGreatDoor.Sto
/-
  Labels: the matches at the front of a text, and what is behind them: as a plain function.
-/
namespace Go.Gh
set_option linter.unusedVariables false
set_option linter.unusedSimpArgs false
theorem notR_end {m : Mt} (hn : nameOk m.nm = true) (t z : By) : mtx m ++ t ≠ 125 :: z := by
  obtain ⟨c, r, e, hc⟩ := mtx_head hn
  rw [e]
  intro h
  have : c = 125 := by simpa using congrArg List.head? h
  rw [this] at hc
  revert hc
  decide
theorem textR_inj : ∀ (a b : List Mt) (z z' : By), Right a → Right b → commas (a.map mtx) ++ 125 :: z = commas (b.map mtx) ++ 125 :: z' → a = b ∧ z = z'
  | [], [], z, z', _, _, h => by
    have h' : 125 :: z = 125 :: z' := h
    injection h' with _ h'
    exact ⟨rfl, h'⟩
  | [], m :: r, z, z', _, hb, h => by
    rw [commas_consR] at h
    exact absurd h.symm (notR_end (hb m (by simp)).2.2.1 _ _)
  | m :: r, [], z, z', ha, _, h => by
    rw [commas_consR] at h
    exact absurd h (notR_end (ha m (by simp)).2.2.1 _ _)
  | m :: r, m' :: r', z, z', ha, hb, h => by
    rw [commas_consR, commas_consR] at h
    have h1 := ha m (by simp)
    have h2 := hb m' (by simp)
    have o1 := one_mtx h1.1 h1.2.1 h1.2.2.1 (tailR r z)
    have o2 := one_mtx h2.1 h2.2.1 h2.2.2.1 (tailR r' z')
    rw [h, o2] at o1
    injection o1 with o1
    injection o1 with e1 e2
    subst e1
    have : r = r' ∧ z = z' := by
      cases r with
      | nil => cases r' with
        | nil =>
          have e2' : 125 :: z' = 125 :: z := e2
          injection e2' with _ e3
          exact ⟨rfl, e3.symm⟩
        | cons y s => exact absurd (congrArg List.head? e2) (by simp [tailR])
      | cons x q => cases r' with
        | nil => exact absurd (congrArg List.head? e2) (by simp [tailR])
        | cons y s =>
          unfold tailR at e2
          injection e2 with _ e3
          exact textR_inj (x :: q) (y :: s) z z' (fun u hu => ha u (by simp [hu])) (fun u hu => hb u (by simp [hu])) e3.symm
    rw [this.1]
    exact ⟨rfl, this.2⟩
open Classical in
/-- The matches at the front, and the rest. -/
noncomputable def maF (s : By) : Option (List Mt × By) := if h : ∃ p : List Mt × By, matchF p.1 = 0 ∧ textM p.1 ++ p.2 = s then some h.choose else none
theorem textM_app (ms : List Mt) (z : By) : textM ms ++ z = 123 :: (commas (ms.map mtx) ++ 125 :: z) := by
  unfold textM
  simp [List.append_assoc]
theorem ma_some {s : By} {ms : List Mt} {z : By} (h1 : matchF ms = 0) (h2 : textM ms ++ z = s) : maF s = some (ms, z) := by
  unfold maF
  have hp : ∃ p : List Mt × By, matchF p.1 = 0 ∧ textM p.1 ++ p.2 = s := ⟨(ms, z), h1, h2⟩
  rw [dif_pos hp]
  obtain ⟨c1, c2⟩ := hp.choose_spec
  generalize hp.choose = q at c1 c2
  have e : textM q.1 ++ q.2 = textM ms ++ z := c2.trans h2.symm
  rw [textM_app, textM_app] at e
  injection e with _ e
  obtain ⟨e1, e2⟩ := textR_inj _ _ _ _ (matchF_zero c1).2 (matchF_zero h1).2 e
  cases q
  simp only at e1 e2
  rw [e1, e2]
theorem ma_spec {s : By} {ms : List Mt} {z : By} (h : maF s = some (ms, z)) : matchF ms = 0 ∧ textM ms ++ z = s := by
  unfold maF at h
  split at h
  · rename_i hp
    injection h with h
    have := hp.choose_spec
    rw [h] at this
    exact this
  · simp at h
theorem ma_none {s : By} (h : ∀ t, s ≠ 123 :: t) : maF s = none := by
  cases hm : maF s with
  | none => rfl
  | some p =>
    obtain ⟨ms, z⟩ := p
    have := (ma_spec hm).2
    rw [textM_app] at this
    exact absurd this.symm (h _)
/-- What the document's reading comes to. -/
theorem ma_ref {s t : By} {res : Option (List Mt × By)} (hs : s = 123 :: t) (hr : RrR t [] res) : (∃ ms z, res = some (ms, z) ∧ matchF ms = 0 ∧ textM ms ++ z = s ∧ maF s = some (ms, z)) ∨ ((∀ ms z, res = some (ms, z) → ¬ (matchF ms = 0 ∧ textM ms ++ z = s)) ∧ maF s = none) := by
  cases hm : maF s with
  | none =>
    refine Or.inr ⟨fun ms z _ h => ?_, rfl⟩
    rw [ma_some h.1 h.2] at hm
    simp at hm
  | some p =>
    obtain ⟨ms, z⟩ := p
    obtain ⟨c1, c2⟩ := ma_spec hm
    have et : commas (ms.map mtx) ++ 125 :: z = t := by
      rw [textM_app, hs] at c2
      injection c2
    rw [← et] at hr
    exact Or.inl ⟨ms, z, rr_text ms z res (matchF_zero c1).2 hr, c1, c2, rfl⟩
theorem rm_ma_some {s : By} {ms : List Mt} (h : maF s = some (ms, [])) : rmF s = some ms := by
  obtain ⟨c1, c2⟩ := ma_spec h
  rw [List.append_nil] at c2
  exact rm_some c1 c2
theorem rmF_spec' {l : By} {ms : List Mt} (h : rmF l = some ms) : matchF ms = 0 ∧ textM ms = l := by
  unfold rmF at h
  split at h
  · rename_i hp
    injection h with h
    rw [← h]
    exact hp.choose_spec
  · simp at h
theorem rm_ma_none {s : By} (h : ∀ ms, maF s ≠ some (ms, [])) : rmF s = none := by
  cases hm : rmF s with
  | none => rfl
  | some ms =>
    obtain ⟨c1, c2⟩ := rmF_spec' hm
    exact absurd (ma_some c1 (by rw [List.append_nil]; exact c2)) (h ms)
end Go.Gh
/-
  Labels: the walk of begins.
-/
namespace Go.Proofs.YtlfhcjhbnakamaaGreatDoor.Lab
open Go.RowKit Go.Gh
set_option linter.unusedVariables false
set_option linter.unusedSimpArgs false
theorem begins_any (a b : By) (w : World) : Calls Tryz.prog 60 #[.string (mkS a), .string (mkS b)] w fun e w' => e = .returned (.bool (b.isPrefixOf a)) ∧ w' = w := by
  have ha := mkS_size a
  have hb := mkS_size b
  have hx := mkS_ext a 0 b.length
  have hlb := mkS_list b
  have hpp : ∀ h : b.length ≤ a.length, ((mkS (a.take b.length)).toList == b) = b.isPrefixOf a := by
    intro h
    rw [mkS_list, Bool.eq_iff_iff, beq_iff_eq, List.isPrefixOf_iff_prefix]
    constructor
    · intro e; exact ⟨a.drop b.length, by conv => lhs; lhs; rw [← e]
                                          exact List.take_append_drop _ _⟩
    · rintro ⟨t, rfl⟩; rw [List.take_left]
  rw [Nat.sub_zero, List.drop_zero] at hx
  obtain ⟨F, hF⟩ : ∃ F, b.isPrefixOf a = F := ⟨_, rfl⟩
  rw [hF] at hpp ⊢
  by_cases hl : b.length ≤ a.length
  · have hq := hpp hl
    obtain ⟨X, hX⟩ : ∃ X, mkS (a.take b.length) = X := ⟨_, rfl⟩
    rw [hX] at hx hq
    obtain ⟨SA, hSA⟩ : ∃ X, mkS a = X := ⟨_, rfl⟩
    obtain ⟨SB, hSB⟩ : ∃ X, mkS b = X := ⟨_, rfl⟩
    rw [hSA] at ha hx ⊢
    rw [hSB] at hb hlb ⊢
    rw [← hlb] at hq
    obtain ⟨n, hn⟩ : ∃ n, a.length = n := ⟨_, rfl⟩
    obtain ⟨m, hm⟩ : ∃ n, b.length = n := ⟨_, rfl⟩
    rw [hn] at ha hl
    rw [hm] at hb hl hx
    have hli : (m : Int) ≤ (n : Int) := by omega
    clear hn hm hF hpp hX hSA hSB hlb
    go_enter Tryz.func60, Tryz.ntmps60
    go_wp2_with fail
    go_ret
    exact ⟨rfl, rfl⟩
  · have hF2 : F = false := by
      rw [← hF]
      cases h : b.isPrefixOf a with
      | false => rfl
      | true => exact absurd (List.isPrefixOf_iff_prefix.1 h).length_le hl
    subst hF2
    obtain ⟨SA, hSA⟩ : ∃ X, mkS a = X := ⟨_, rfl⟩
    obtain ⟨SB, hSB⟩ : ∃ X, mkS b = X := ⟨_, rfl⟩
    rw [hSA] at ha ⊢
    rw [hSB] at hb ⊢
    have hli : ¬ (SB.size : Int) ≤ (SA.size : Int) := by omega
    clear hx hlb hpp hF ha hb hSA hSB hl
    go_enter Tryz.func60, Tryz.ntmps60
    go_wp2_with fail
    go_ret
    exact ⟨by simp, rfl⟩
end Go.Proofs.YtlfhcjhbnakamaaGreatDoor.Lab
