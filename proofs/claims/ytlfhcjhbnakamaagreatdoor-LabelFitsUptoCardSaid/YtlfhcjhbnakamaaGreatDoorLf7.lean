/-
  Matches: the walk of MatchesText (PRINTED by mklb8.py).
-/
import Derived.Test.YtlfhcjhbnakamaaGreatDoorLf1
import Derived.Test.YtlfhcjhbnakamaaGreatDoorLf4
import Derived.Test.YtlfhcjhbnakamaaGreatDoorLf6
import Derived.Lib.IndexMore
import Derived.Shelf.Lay
import Derived.Shelf.LaySoft
import Derived.Shelf.LaysM
import Derived.Shelf.Strings.Search1
import Derived.Shelf.Strings.Search2
import Derived.Shelf.Strings.Search3
import Derived.Test.YtlfhcjhbnakamaaGreatDoorProg
import Derived.WalkKit
import Derived.IntWalk
import Derived.Test.YtlfhcjhbnakamaaGreatDoorRows
import Derived.OwnWalk
import Derived.Outline
namespace Go.Proofs.YtlfhcjhbnakamaaGreatDoor.Lab
open Go.RowKit Go.Gh
set_option linter.unusedVariables false
set_option linter.unusedSimpArgs false
theorem commas_snoc : ∀ (l : List By) (x : By), commas (l ++ [x]) = if l = [] then x else commas l ++ 44 :: x
  | [], x => rfl
  | [y], x => rfl
  | y :: z :: r, x => by
    have ih := commas_snoc (z :: r) x
    rw [if_neg (by simp)] at ih ⊢
    show y ++ 44 :: commas ((z :: r) ++ [x]) = y ++ 44 :: commas (z :: r) ++ 44 :: x
    rw [ih, List.append_assoc]
    rfl
theorem pre_next {M : List Mt} {k : Nat} {x : Mt} (hx : M[k]? = some x) : commas ((M.take (k + 1)).map mtx) = if k = 0 then mtx x else commas ((M.take k).map mtx) ++ 44 :: mtx x := by
  rw [List.take_add_one, hx, List.map_append]
  show commas ((M.take k).map mtx ++ [mtx x]) = _
  rw [commas_snoc]
  have hl := (List.getElem?_eq_some_iff.1 hx).1
  by_cases h0 : k = 0
  · subst h0
    rw [List.take_zero]
    rfl
  · have : (M.take k).map mtx ≠ [] := by
      intro e
      have := congrArg List.length e
      rw [List.length_map, List.length_take, List.length_nil] at this
      omega
    rw [if_neg h0, if_neg this]
/-- The condition on the world may grow on the way. -/
theorem wpAnyH_more {P : Program} {ops : Array Oper} {Q : Exit → Act → World → Prop} {md : Region.Mode} {S S' : World → Prop} (hs : ∀ w, S' w → S w) : ∀ (fuel : Nat) (listed : Array Bool) (a : Act) (w : World), wpAnyH P md ops Q S' fuel listed a w → wpAnyH P md ops Q S fuel listed a w
  | 0, _, _, _, h => h
  | fuel + 1, _, _, _, h => ⟨h.1, fun i hi => wpOp_mono (fun a' w' h' => ⟨hs _ h'.1, wpAnyH_more hs fuel _ a' w' h'.2⟩) (h.2 i hi)⟩
set_option maxHeartbeats 8000000 in
set_option maxRecDepth 100000 in
theorem mtext_any (v : Value) (M : List Mt) (w : World) (hs : Sp MtR 3 w v M) (h0 : matchF M = 0) : Calls Tryz.prog 28 #[v] w fun e w' => e = .returned (.string (mkS (textM M))) ∧ Below w.heap.size w w' := by
  obtain ⟨n, hn⟩ : ∃ n, M.length = n := ⟨_, rfl⟩
  obtain ⟨ao, c, rfl, hnc, hc⟩ := hs.shapeN hn
  have HN := Lib.hid hn
  have hn10 : n ≤ 10 := by have := (matchF_zero h0).1; omega
  have HOK := Lib.hid (fun m (hm : m ∈ M) => ok_mem h0 hm)
  have HS := Lib.hid hs
  obtain ⟨R, hR⟩ : ∃ R, mkS (textM M) = R := ⟨_, rfl⟩
  rw [hR]
  have HR := Lib.hid hR
  clear hn h0 hs hR
  go_enter Tryz.func28, Tryz.ntmps28
  go_wp2_with fail
  go_loopw [3, 8] (fun o i wr => ∃ (k : Nat) (O : ByteArray), k ≤ n ∧ i = .int .i64 k ∧ o = .string O ∧ Hid (O = mkS (123 :: commas ((M.take k).map mtx))) ∧ O.size ≤ 1 + 105 * k ∧ Hid (Below w.heap.size w wr)) (fun _ i _ => n - (intOf i).toNat)
  case atStart => exact ⟨0, _, Nat.zero_le _, rfl, rfl, Lib.hid rfl, by decide, Lib.hid (Below.refl _ _)⟩
  case round =>
    obtain ⟨k, O, hk, rfl, rfl, HO, hos, HB⟩ := hrel
    by_cases hlt : k < n
    case neg =>
      obtain rfl : k = n := by omega
      have hs1 : O.size + 1 ≤ 9223372036854775807 := by omega
      have HE : Hid (O ++ ⟨#[125]⟩ = R) := Lib.hid (by
        rw [← HR.out, HO.out, List.take_of_length_le (Nat.le_of_eq HN.out)]
        exact mkS_app _ [125])
      go_wp2_with fail
      go_ret
      exact ⟨by rw [← HE.out]; rfl, HB.out⟩
    obtain ⟨x, hx⟩ : ∃ x, M[k]? = some x := ⟨_, List.getElem?_eq_getElem (by rw [HN.out]; exact hlt)⟩
    obtain ⟨o1, o2, o3, o4⟩ := HOK.out x (List.mem_of_getElem? hx)
    obtain ⟨b, off, cs, rfl, ⟨rfl, hb1, hb2, hk1, hk2⟩, _, hck⟩ := (HS.out.below mtR_mono HB.out).get hx
    have c0 := hck 0 _ rfl
    have c1 := hck 1 _ rfl
    have c2 := hck 2 _ rfl
    rw [Nat.add_zero] at c0
    have HPN := Lib.hid (pre_next hx)
    obtain ⟨Sn, hSn⟩ : ∃ S, S = mkS x.nm := ⟨_, rfl⟩
    obtain ⟨V, hV⟩ : ∃ S, S = mkS x.vl := ⟨_, rfl⟩
    obtain ⟨Qv, hQv⟩ : ∃ S, S = mkS (quo x.vl) := ⟨_, rfl⟩
    have hsz1 : Sn.size ≤ 20 := by rw [hSn, mkS_size]; exact o3
    have hsz3 : Qv.size ≤ 82 := by
      rw [hQv, mkS_size]
      unfold quo
      have := esc_le x.vl
      simp only [List.length_cons, List.length_append, List.length_nil]
      omega
    have HMX : Hid (Sn ++ mkS (sgn x.kd) ++ Qv = mkS (mtx x)) := Lib.hid (by
      rw [hSn, hQv, mkS_app, mkS_app]
      unfold mtx
      rw [List.append_assoc])
    have HQ := Lib.hid (fun W => inquotes_any x.vl W (by omega))
    rw [← hV] at c2
    rw [← hSn] at c1
    rw [← hV, ← hQv] at HQ
    obtain ⟨G, hG⟩ : ∃ G, G = wr.heap.size := ⟨_, rfl⟩
    obtain ⟨P, hP⟩ : ∃ P : ByteArray, P = if k = 0 then O else O ++ ⟨#[44]⟩ := ⟨_, rfl⟩
    have hPs : P.size ≤ 2 + 105 * k := by
      rw [hP]
      split
      · omega
      · rw [ByteArray.size_append]
        show O.size + 1 ≤ _
        omega
    have HPX : Hid (P ++ mkS (mtx x) = mkS (123 :: commas ((M.take (k + 1)).map mtx))) := Lib.hid (by
      rw [hP, HPN.out]
      by_cases hk0 : k = 0
      · subst hk0
        rw [if_pos rfl, if_pos rfl, HO.out, mkS_app]
        rfl
      · rw [if_neg hk0, if_neg hk0, HO.out]
        show mkS _ ++ mkS [44] ++ mkS _ = _
        rw [mkS_app, mkS_app]
        simp [List.append_assoc])
    obtain ⟨K, hK⟩ : ∃ K, x.kd = K := ⟨_, rfl⟩
    rw [hK] at c0 o1 o2 HMX
    clear hSn hV hQv hck hx hk1 hk2 hb1 hb2 hK o3 o4
    have hos1 : O.size + 1 ≤ 9223372036854775807 := by omega
    go_upto_if 14 with (fail)
    obtain ⟨W5, hW5⟩ : ∃ W5, W5 = wr.alloc (Obj.cells #[.int .i64 K, .string Sn, .string V] 70) := ⟨_, rfl⟩
    rw [← hW5, ← hG]
    have hbox : W5.heap[G]? = some (.cells #[.int .i64 K, .string Sn, .string V] 70 (0, 0)) := by rw [hW5, hG]; exact heap_alloc_new wr _
    have hbw : Below wr.heap.size wr W5 := by rw [hW5]; exact (Below.refl _ _).alloc (Nat.le_refl _) _
    have HB5 : Hid (Below w.heap.size w W5) := Lib.hid (HB.out.trans (hbw.mono HB.out.size))
    have y0 : W5.drew.cell? ⟨G, 0, none⟩ = some (.int .i64 K) := (row_cell 0 _ hbox rfl).1
    have y1 : W5.drew.cell? ⟨G, 1, none⟩ = some (.string Sn) := (row_cell 1 _ hbox rfl).1
    have y2 : W5.drew.cell? ⟨G, 2, none⟩ = some (.string V) := (row_cell 2 _ hbox rfl).1
    have HP := Lib.hid hP
    clear hW5 hG hbox hbw c0 c1 c2 HPN hP
    go_cut [3] (fun o wx => o = .string P ∧ wx = W5)
    case first =>
      by_cases hk0 : k = 0
      · have HP0 : Hid (P = O) := Lib.hid (by rw [HP.out, if_pos hk0])
        subst hk0
        go_wp2_with fail
        go_meet
        case rel => exact ⟨by rw [HP0.out], rfl⟩
      · have HP0 : Hid (P = O ++ ⟨#[44]⟩) := Lib.hid (by rw [HP.out, if_neg hk0])
        have hki : (0 : Int) < (k : Int) := by omega
        go_wp2_with fail
        go_meet
        case rel => exact ⟨by rw [HP0.out], rfl⟩
    case rest =>
    obtain ⟨rfl, rfl⟩ := hcut
    obtain ⟨κ, hκ⟩ : ∃ κ : Nat, K = (κ : Int) := ⟨K.toNat, by omega⟩
    subst hκ
    have hκi : (κ : Int) < 5 := by omega
    obtain ⟨Sg, hSg⟩ : ∃ S, S = mkS (sgn κ) := ⟨_, rfl⟩
    have hsz2 : Sg.size ≤ 2 := by rw [hSg, mkS_size]; exact sgn_le _
    rw [← hSg] at HMX
    have HE2 : Hid (P ++ (Sn ++ Sg ++ Qv) = mkS (123 :: commas ((M.take (k + 1)).map mtx))) := Lib.hid (by
      rw [← HPX.out, ← HMX.out])
    have hs1 : (9223372036854775807 < Sn.size + Sg.size) = False := eq_false (by omega)
    have hs2 : (9223372036854775807 < Sn.size + Sg.size + Qv.size) = False := eq_false (by omega)
    have hs3 : (9223372036854775807 < P.size + (Sn.size + Sg.size + Qv.size)) = False := eq_false (by omega)
    have hos2 : (P ++ (Sn ++ Sg ++ Qv) : ByteArray).size ≤ 1 + 105 * (k + 1) := by
      rw [ByteArray.size_append, ByteArray.size_append, ByteArray.size_append]
      omega
    have HOS := Lib.hid hos2
    have HSG := Lib.hid hSg
    have hx4 : κ = 1 ∨ κ = 2 ∨ κ = 3 ∨ κ = 4 := by omega
    have HX4 := Lib.hid hx4
    clear hos2 hSg hx4
    go_upto_region 7 with (fail)
    clear HPX HMX
    have x0 : wc.drew.cell? ⟨G, 0, none⟩ = some (.int .i64 κ) := y0
    have x1 : wc.drew.cell? ⟨G, 1, none⟩ = some (.string Sn) := y1
    have x2 : wc.drew.cell? ⟨G, 2, none⟩ = some (.string V) := y2
    obtain ⟨W6, hW6⟩ : ∃ W6, W6 = (wc.alloc (Obj.cells #[.string ⟨#[]⟩, .string ⟨#[61]⟩, .string ⟨#[33, 61]⟩, .string ⟨#[61, 94]⟩, .string ⟨#[61, 126]⟩] 9)).drew := ⟨_, rfl⟩
    have hb6 : Below wc.heap.size wc W6 := by rw [hW6]; exact ((Below.refl _ _).alloc (Nat.le_refl _) _).drew
    have hl : G < wc.heap.size := cell_lt y0
    have z0 : W6.cell? ⟨G, 0, none⟩ = some (.int .i64 κ) := (hb6.cell (p := ⟨G, 0, none⟩) hl).trans y0
    have z1 : W6.cell? ⟨G, 1, none⟩ = some (.string Sn) := (hb6.cell (p := ⟨G, 1, none⟩) hl).trans y1
    have z2 : W6.cell? ⟨G, 2, none⟩ = some (.string V) := (hb6.cell (p := ⟨G, 2, none⟩) hl).trans y2
    obtain ⟨Nw, hNw⟩ : ∃ Nw, Nw = wc.heap.size := ⟨_, rfl⟩
    have z3 : W6.cell? ⟨Nw, κ, none⟩ = some (.string Sg) := by
      rw [hW6, hNw, HSG.out]
      refine (row_cell κ _ (heap_alloc_new wc _) ?_).1
      rcases HX4.out with rfl | rfl | rfl | rfl <;> rfl
    have HB6 := Lib.hid hb6
    have HW6 := Lib.hid hW6
    have HNW := Lib.hid hNw
    clear hb6 hl hW6 hNw
    refine wp_region_noPanic ?_
    refine wp_region_held_drew (S := fun w' => w'.cell? ⟨G, 0, none⟩ = some (.int .i64 κ) ∧ w'.cell? ⟨G, 1, none⟩ = some (.string Sn) ∧ w'.cell? ⟨G, 2, none⟩ = some (.string V)) (by kernel_rfl) ⟨x0, x1, x2⟩ (fun hHeld => ?_)
    refine wpAnyH_take (i := 0) (v := ?v0) rfl (by kernel_rfl) (by kernel_rfl) (by kernel_rfl) (fun _ _ _ h => h) (Or.inl ⟨by rfl, ?hy0⟩) hHeld ?rest0
    case hy0 => (intro w hSw; (try dsimp only at hSw); go_simp; (try with_reducible rfl))
    case rest0 =>
    try simp only [Act.put, List.setIfInBounds_toArray, List.set_cons_zero, List.set_cons_succ, List.getElem_toArray, List.getElem_cons_succ, List.getElem_cons_zero]
    refine wpAnyH_take (i := 1) (v := ?v1) rfl (by kernel_rfl) (by kernel_rfl) (by kernel_rfl) (fun _ _ _ h => h) (Or.inl ⟨by rfl, ?hy1⟩) hHeld ?rest1
    case hy1 => (intro w hSw; (try dsimp only at hSw); go_simp; (try with_reducible rfl))
    case rest1 =>
    try simp only [Act.put, List.setIfInBounds_toArray, List.set_cons_zero, List.set_cons_succ, List.getElem_toArray, List.getElem_cons_succ, List.getElem_cons_zero]
    refine wpAnyH_take (i := 2) (v := ?v2) rfl (by kernel_rfl) (by kernel_rfl) (by kernel_rfl) (fun _ _ _ h => h) (Or.inl ⟨by rfl, ?hy2⟩) hHeld ?rest2
    case hy2 => (intro w hSw; (try dsimp only at hSw); go_simp; (try with_reducible rfl))
    case rest2 =>
    try simp only [Act.put, List.setIfInBounds_toArray, List.set_cons_zero, List.set_cons_succ, List.getElem_toArray, List.getElem_cons_succ, List.getElem_cons_zero]
    refine wpAnyH_take (i := 4) (v := ?v4) rfl (by kernel_rfl) (by kernel_rfl) (by kernel_rfl) (fun _ _ _ h => h) (Or.inl ⟨by rfl, ?hy4⟩) hHeld ?rest4
    case hy4 => (intro w hSw; (try dsimp only at hSw); go_simp; (try with_reducible rfl))
    case rest4 =>
    try simp only [Act.put, List.setIfInBounds_toArray, List.set_cons_zero, List.set_cons_succ, List.getElem_toArray, List.getElem_cons_succ, List.getElem_cons_zero]
    refine wpAnyH_take (i := 5) (v := ?v5) rfl (by kernel_rfl) (by kernel_rfl) (by kernel_rfl) (fun _ _ _ h => h) (Or.inl ⟨by rfl, ?hy5⟩) hHeld ?rest5
    case hy5 => (intro w hSw; (try dsimp only at hSw); go_simp; (try with_reducible rfl))
    case rest5 =>
    try simp only [Act.put, List.setIfInBounds_toArray, List.set_cons_zero, List.set_cons_succ, List.getElem_toArray, List.getElem_cons_succ, List.getElem_cons_zero]
    refine wpAnyH_take (i := 9) (v := ?v9) rfl (by kernel_rfl) (by kernel_rfl) (by kernel_rfl) (fun _ _ _ h => h) (Or.inl ⟨by rfl, ?hy9⟩) hHeld ?rest9
    case hy9 => (intro w hSw; (try dsimp only at hSw); go_simp; (try with_reducible rfl))
    case rest9 =>
    try simp only [Act.put, List.setIfInBounds_toArray, List.set_cons_zero, List.set_cons_succ, List.getElem_toArray, List.getElem_cons_succ, List.getElem_cons_zero]
    refine wpAnyH_take (i := 10) (v := ?v10) rfl (by kernel_rfl) (by kernel_rfl) (by kernel_rfl) (fun _ _ _ h => h) (Or.inl ⟨by rfl, ?hy10⟩) hHeld ?rest10
    case hy10 => (intro w hSw; (try dsimp only at hSw); go_simp; (try with_reducible rfl))
    case rest10 =>
    try simp only [Act.put, List.setIfInBounds_toArray, List.set_cons_zero, List.set_cons_succ, List.getElem_toArray, List.getElem_cons_succ, List.getElem_cons_zero]
    refine wpAnyH_ready (rs := [3, 11]) (by kernel_rfl) (by simp) ?_
    refine AllReadyH.cons rfl (fun K hK => ?_) ?_
    · go_simp
      rw [← HW6.out, ← HNW.out]
      refine hK.out _ _ ⟨z0, z1, z2⟩ (fun hHeld => ?_)
      clear hK K
      try simp only [Act.put, List.setIfInBounds_toArray, List.set_cons_zero, List.set_cons_succ, List.getElem_toArray, List.getElem_cons_succ, List.getElem_cons_zero]
      refine wpAnyH_more (S' := fun w' => w'.cell? ⟨G, 0, none⟩ = some (.int .i64 κ) ∧ w'.cell? ⟨G, 1, none⟩ = some (.string Sn) ∧ w'.cell? ⟨G, 2, none⟩ = some (.string V) ∧ w'.cell? ⟨Nw, κ, none⟩ = some (.string Sg)) (fun w h => ⟨h.1, h.2.1, h.2.2.1⟩) _ _ _ _ ?_
      have hHeld1 : W6.cell? ⟨G, 0, none⟩ = some (.int .i64 κ) ∧ W6.cell? ⟨G, 1, none⟩ = some (.string Sn) ∧ W6.cell? ⟨G, 2, none⟩ = some (.string V) ∧ W6.cell? ⟨Nw, κ, none⟩ = some (.string Sg) := ⟨z0, z1, z2, z3⟩
      refine wpAnyH_take (i := 6) (v := ?v6) rfl (by kernel_rfl) (by kernel_rfl) (by kernel_rfl) (fun _ _ _ h => h) (Or.inl ⟨by rfl, ?hy6⟩) hHeld1 ?rest6
      case hy6 => (intro w hSw; (try dsimp only at hSw); go_simp; (try with_reducible rfl))
      case rest6 =>
      try simp only [Act.put, List.setIfInBounds_toArray, List.set_cons_zero, List.set_cons_succ, List.getElem_toArray, List.getElem_cons_succ, List.getElem_cons_zero]
      refine wpAnyH_take (i := 7) (v := ?v7) rfl (by kernel_rfl) (by kernel_rfl) (by kernel_rfl) (fun _ _ _ h => h) (Or.inl ⟨by rfl, ?hy7⟩) hHeld1 ?rest7
      case hy7 => (intro w hSw; (try dsimp only at hSw); go_simp; (try with_reducible rfl))
      case rest7 =>
      try simp only [Act.put, List.setIfInBounds_toArray, List.set_cons_zero, List.set_cons_succ, List.getElem_toArray, List.getElem_cons_succ, List.getElem_cons_zero]
      refine wpAnyH_take (i := 8) (v := ?v8) rfl (by kernel_rfl) (by kernel_rfl) (by kernel_rfl) (fun _ _ _ h => h) (Or.inl ⟨by rfl, ?hy8⟩) hHeld1 ?rest8
      case hy8 => (intro w hSw; (try dsimp only at hSw); go_simp; (try with_reducible rfl))
      case rest8 =>
      try simp only [Act.put, List.setIfInBounds_toArray, List.set_cons_zero, List.set_cons_succ, List.getElem_toArray, List.getElem_cons_succ, List.getElem_cons_zero]
      refine wpAnyH_ready (rs := [11]) (by kernel_rfl) (by simp) ?_
      refine AllReadyH.cons rfl (fun K hK => ?_) ?_
      · go_simp
        refine (HQ.out _).mono ?_
        rintro e w2 ⟨rfl, hw2⟩
        have hw2 := hw2.symm
        subst hw2
        refine hK.out _ _ hHeld1 (fun hHeld2 => ?_)
        clear hK K
        try simp only [Act.put, List.setIfInBounds_toArray, List.set_cons_zero, List.set_cons_succ, List.getElem_toArray, List.getElem_cons_succ, List.getElem_cons_zero]
        refine wpAnyH_take (i := 12) (v := ?v12) rfl (by kernel_rfl) (by kernel_rfl) (by kernel_rfl) (fun _ _ _ h => h) (Or.inl ⟨by rfl, ?hy12⟩) hHeld1 ?rest12
        case hy12 => (intro w hSw; (try dsimp only at hSw); go_simp; (try with_reducible rfl))
        case rest12 =>
        try simp only [Act.put, List.setIfInBounds_toArray, List.set_cons_zero, List.set_cons_succ, List.getElem_toArray, List.getElem_cons_succ, List.getElem_cons_zero]
        refine wpAnyH_take (i := 13) (v := ?v13) rfl (by kernel_rfl) (by kernel_rfl) (by kernel_rfl) (fun _ _ _ h => h) (Or.inl ⟨by rfl, ?hy13⟩) hHeld1 ?rest13
        case hy13 => (intro w hSw; (try dsimp only at hSw); go_simp; (try with_reducible rfl))
        case rest13 =>
        try simp only [Act.put, List.setIfInBounds_toArray, List.set_cons_zero, List.set_cons_succ, List.getElem_toArray, List.getElem_cons_succ, List.getElem_cons_zero]
        refine wpAnyH_take (i := 14) (v := ?v14) rfl (by kernel_rfl) (by kernel_rfl) (by kernel_rfl) (fun _ _ _ h => h) (Or.inl ⟨by rfl, ?hy14⟩) hHeld1 ?rest14
        case hy14 => (intro w hSw; (try dsimp only at hSw); go_simp; (try with_reducible rfl))
        case rest14 =>
        try simp only [Act.put, List.setIfInBounds_toArray, List.set_cons_zero, List.set_cons_succ, List.getElem_toArray, List.getElem_cons_succ, List.getElem_cons_zero]
        refine wpAnyH_done (by kernel_rfl) ?_ _
        refine NoPanic.normal ?_
        have HBZ : Hid (Below w.heap.size w W6) := Lib.hid (HB5.out.trans (HB6.out.mono HB5.out.size))
        clear z0 z1 z2 z3 x0 x1 x2 y0 y1 y2 hHeld hHeld1
        go_wp2_with fail
        go_roundw
        case rel => exact ⟨k + 1, _, by omega, by go_num, rfl, HE2, HOS.out, HBZ⟩
        case measure => simp [intOf]; omega
      · exact AllReadyH.nil
    refine AllReadyH.cons rfl (fun K hK => ?_) ?_
    · go_simp
      refine (HQ.out _).mono ?_
      rintro e w2 ⟨rfl, hw2⟩
      have hw2 := hw2.symm
      subst hw2
      refine hK.out _ _ hHeld (fun hHeld2 => ?_)
      clear hK K
      try simp only [Act.put, List.setIfInBounds_toArray, List.set_cons_zero, List.set_cons_succ, List.getElem_toArray, List.getElem_cons_succ, List.getElem_cons_zero]
      refine wpAnyH_ready (rs := [3]) (by kernel_rfl) (by simp) ?_
      refine AllReadyH.cons rfl (fun K hK => ?_) ?_
      · go_simp
        rw [← HW6.out, ← HNW.out]
        refine hK.out _ _ ⟨z0, z1, z2⟩ (fun hHeld => ?_)
        clear hK K
        try simp only [Act.put, List.setIfInBounds_toArray, List.set_cons_zero, List.set_cons_succ, List.getElem_toArray, List.getElem_cons_succ, List.getElem_cons_zero]
        refine wpAnyH_more (S' := fun w' => w'.cell? ⟨G, 0, none⟩ = some (.int .i64 κ) ∧ w'.cell? ⟨G, 1, none⟩ = some (.string Sn) ∧ w'.cell? ⟨G, 2, none⟩ = some (.string V) ∧ w'.cell? ⟨Nw, κ, none⟩ = some (.string Sg)) (fun w h => ⟨h.1, h.2.1, h.2.2.1⟩) _ _ _ _ ?_
        have hHeld1 : W6.cell? ⟨G, 0, none⟩ = some (.int .i64 κ) ∧ W6.cell? ⟨G, 1, none⟩ = some (.string Sn) ∧ W6.cell? ⟨G, 2, none⟩ = some (.string V) ∧ W6.cell? ⟨Nw, κ, none⟩ = some (.string Sg) := ⟨z0, z1, z2, z3⟩
        refine wpAnyH_take (i := 6) (v := ?v6) rfl (by kernel_rfl) (by kernel_rfl) (by kernel_rfl) (fun _ _ _ h => h) (Or.inl ⟨by rfl, ?hy6⟩) hHeld1 ?rest6
        case hy6 => (intro w hSw; (try dsimp only at hSw); go_simp; (try with_reducible rfl))
        case rest6 =>
        try simp only [Act.put, List.setIfInBounds_toArray, List.set_cons_zero, List.set_cons_succ, List.getElem_toArray, List.getElem_cons_succ, List.getElem_cons_zero]
        refine wpAnyH_take (i := 7) (v := ?v7) rfl (by kernel_rfl) (by kernel_rfl) (by kernel_rfl) (fun _ _ _ h => h) (Or.inl ⟨by rfl, ?hy7⟩) hHeld1 ?rest7
        case hy7 => (intro w hSw; (try dsimp only at hSw); go_simp; (try with_reducible rfl))
        case rest7 =>
        try simp only [Act.put, List.setIfInBounds_toArray, List.set_cons_zero, List.set_cons_succ, List.getElem_toArray, List.getElem_cons_succ, List.getElem_cons_zero]
        refine wpAnyH_take (i := 8) (v := ?v8) rfl (by kernel_rfl) (by kernel_rfl) (by kernel_rfl) (fun _ _ _ h => h) (Or.inl ⟨by rfl, ?hy8⟩) hHeld1 ?rest8
        case hy8 => (intro w hSw; (try dsimp only at hSw); go_simp; (try with_reducible rfl))
        case rest8 =>
        try simp only [Act.put, List.setIfInBounds_toArray, List.set_cons_zero, List.set_cons_succ, List.getElem_toArray, List.getElem_cons_succ, List.getElem_cons_zero]
        refine wpAnyH_take (i := 12) (v := ?v12) rfl (by kernel_rfl) (by kernel_rfl) (by kernel_rfl) (fun _ _ _ h => h) (Or.inl ⟨by rfl, ?hy12⟩) hHeld1 ?rest12
        case hy12 => (intro w hSw; (try dsimp only at hSw); go_simp; (try with_reducible rfl))
        case rest12 =>
        try simp only [Act.put, List.setIfInBounds_toArray, List.set_cons_zero, List.set_cons_succ, List.getElem_toArray, List.getElem_cons_succ, List.getElem_cons_zero]
        refine wpAnyH_take (i := 13) (v := ?v13) rfl (by kernel_rfl) (by kernel_rfl) (by kernel_rfl) (fun _ _ _ h => h) (Or.inl ⟨by rfl, ?hy13⟩) hHeld1 ?rest13
        case hy13 => (intro w hSw; (try dsimp only at hSw); go_simp; (try with_reducible rfl))
        case rest13 =>
        try simp only [Act.put, List.setIfInBounds_toArray, List.set_cons_zero, List.set_cons_succ, List.getElem_toArray, List.getElem_cons_succ, List.getElem_cons_zero]
        refine wpAnyH_take (i := 14) (v := ?v14) rfl (by kernel_rfl) (by kernel_rfl) (by kernel_rfl) (fun _ _ _ h => h) (Or.inl ⟨by rfl, ?hy14⟩) hHeld1 ?rest14
        case hy14 => (intro w hSw; (try dsimp only at hSw); go_simp; (try with_reducible rfl))
        case rest14 =>
        try simp only [Act.put, List.setIfInBounds_toArray, List.set_cons_zero, List.set_cons_succ, List.getElem_toArray, List.getElem_cons_succ, List.getElem_cons_zero]
        refine wpAnyH_done (by kernel_rfl) ?_ _
        refine NoPanic.normal ?_
        have HBZ : Hid (Below w.heap.size w W6) := Lib.hid (HB5.out.trans (HB6.out.mono HB5.out.size))
        clear z0 z1 z2 z3 x0 x1 x2 y0 y1 y2 hHeld hHeld1
        go_wp2_with fail
        go_roundw
        case rel => exact ⟨k + 1, _, by omega, by go_num, rfl, HE2, HOS.out, HBZ⟩
        case measure => simp [intOf]; omega
      · exact AllReadyH.nil
    exact AllReadyH.nil
end Go.Proofs.YtlfhcjhbnakamaaGreatDoor.Lab
/-
  Labels: the walks of matches, AsMatches, Text, MatchText, LabelsText (PRINTED by mklb9.py).
-/
namespace Go.Proofs.YtlfhcjhbnakamaaGreatDoor.Lab
open Go.RowKit Go.Gh
set_option linter.unusedVariables false
set_option linter.unusedSimpArgs false
theorem infoMt : (Tryz.prog.info? 70).map (fun i => (i.zero, i.size, i.bytes)) = some (some (.agg #[.int .i64 0, .string ⟨#[]⟩, .string ⟨#[]⟩]), 3, 40) := by kernel_rfl
theorem elMt : Elem Tryz.prog 34 70 3 40 := elem_of Tryz.underlying34 infoMt rfl (by decide)
theorem infoLb : (Tryz.prog.info? 72).map (fun i => (i.zero, i.size, i.bytes)) = some (some (.agg #[.string ⟨#[]⟩, .string ⟨#[]⟩]), 2, 32) := by kernel_rfl
theorem elLb : Elem Tryz.prog 22 72 2 32 := elem_of Tryz.underlying22 infoLb rfl (by decide)
theorem mtR_grow (T : TypeId) (k B : Nat) : Grow MtR T k B := fun w w' a c u m us h _ _ => h
theorem lbR_grow (T : TypeId) (k B : Nat) : Grow LbR T k B := fun w w' a c u m us h _ _ => h
theorem asM_take {L : List Lb} {k : Nat} {x : Lb} (h : L[k]? = some x) : asM (L.take (k + 1)) = asM (L.take k) ++ [⟨1, x.nm, x.vl⟩] := by
  unfold asM
  rw [List.take_add_one, h, List.map_append]
  rfl
theorem asM_len (L : List Lb) : (asM L).length = L.length := by unfold asM; rw [List.length_map]
theorem labelF_len {l : List Lb} (h : labelF l = 0) : l.length ≤ 10 := by
  have := (matchF_zero (labelF_match h)).1
  rwa [asM_len] at this
set_option maxHeartbeats 4000000 in
set_option maxRecDepth 100000 in
theorem matches_any (v : Value) (L : List Lb) (w : World) (hs : Sp LbR 2 w v L) (h0 : L.length ≤ 10) : Calls Tryz.prog 33 #[v] w fun e w' => ∃ v', e = .returned v' ∧ Ow MtR 3 70 w.heap.size w' v' (asM L) ∧ Below w.heap.size w w' := by
  obtain ⟨n, hn⟩ : ∃ n, L.length = n := ⟨_, rfl⟩
  obtain ⟨ao, c, rfl, hnc, hc⟩ := hs.shapeN hn
  have HN := Lib.hid hn
  have hn10 : n ≤ 10 := by omega
  have HS := Lib.hid hs
  clear hn hs h0
  go_enter Tryz.func33, Tryz.ntmps33
  go_wp2_with fail
  go_loopw [3, 8] (fun u i wr => ∃ (k : Nat), k ≤ n ∧ i = .int .i64 k ∧ Hid (Ow MtR 3 70 w.heap.size wr u (asM (L.take k))) ∧ Below w.heap.size w wr) (fun _ i _ => n - (intOf i).toNat)
  case atStart => exact ⟨0, Nat.zero_le _, rfl, Lib.hid Ow.nil, Below.refl _ _⟩
  case round =>
    obtain ⟨k, hk, rfl, HO, hbel⟩ := hrel
    have hsz := hbel.size
    by_cases hlt : k < n
    case neg =>
      obtain rfl : k = n := by omega
      have HO2 : Hid (Ow MtR 3 70 w.heap.size wr u3 (asM L)) := Lib.hid (by have := HO.out; rwa [List.take_of_length_le (by rw [HN.out]; exact Nat.le_refl _)] at this)
      go_wp2_with fail
      go_ret
      exact ⟨_, rfl, HO2.out, hbel⟩
    obtain ⟨x, hx⟩ : ∃ x, L[k]? = some x := ⟨_, List.getElem?_eq_getElem (by rw [HN.out]; exact hlt)⟩
    obtain ⟨b, off, cs, rfl, ⟨rfl, hl1, hl2⟩, _, hck⟩ := (HS.out.below lbR_mono hbel).get hx
    have HX := Lib.hid hx
    have c0 := hck 0 _ rfl
    have c1 := hck 1 _ rfl
    rw [Nat.add_zero] at c0
    have HPL : Hid ((asM (L.take k)).length = k) := Lib.hid (by rw [asM_len, List.length_take, HN.out]; omega)
    obtain ⟨uo, uc, rfl, hu1, hu2⟩ := Sp.shapeN HO.out.sp HPL.out
    obtain ⟨P, hP1, hP2, hP3, hP4⟩ := HO.out
    rw [HPL.out] at hP4
    have HPP := Lib.hid (And.intro hP1 (And.intro hP2 hP3))
    have HOW := Lib.hid hP4
    have HMR : Hid (MtR w ⟨1, x.nm, x.vl⟩ [.int .i64 1, .string (mkS x.nm), .string (mkS x.vl)]) := Lib.hid ⟨rfl, hl1, hl2, (by decide : (-9223372036854775808 : Int) ≤ 1), (by decide : (1 : Int) < 9223372036854775808)⟩
    obtain ⟨Sn, hSn⟩ : ∃ S, S = mkS x.nm := ⟨_, rfl⟩
    obtain ⟨V, hV⟩ : ∃ S, S = mkS x.vl := ⟨_, rfl⟩
    rw [← hSn, ← hV] at HMR
    rw [← hSn] at c0
    rw [← hV] at c1
    clear hck hx hP1 hP2 hP3 hP4 hSn hV hl1 hl2
    go_upto_region 5 with (fail)
    obtain ⟨wA, hwA⟩ : ∃ wA, wA = wr.alloc (Obj.cells #[.string Sn, .string V] 72) := ⟨_, rfl⟩
    have hbox : wA.heap[wr.heap.size]? = some (.cells #[.string Sn, .string V] 72 (0, 0)) := by rw [hwA]; exact heap_alloc_new wr _
    have hbA : Below wr.heap.size wr wA := by rw [hwA]; exact (Below.refl _ _).alloc (Nat.le_refl _) _
    rw [← hwA]
    have HBA := Lib.hid (hbel.trans (hbA.mono hsz))
    have hO4 : wA.ownsRow w.heap.size 70 3 (.slice uo k uc) k (pc P) := own_below HOW.out hbA
    obtain ⟨⟨d0, d1⟩, -⟩ := bx2 hbox
    generalize wr.heap.size = bx at *
    clear hwA hbox hbA c0 c1
    go_wp2_with (at_builtin; refine append1 [.int .i64 1, .string Sn, .string V] elMt rfl _ _ rfl hO4 HBA.out HBA.out.size rfl rfl rfl (by intro x hx; simp at hx; rcases hx with rfl | rfl | rfl <;> rfl) ?c4 ?c5 ?_)
    case c4 => omega
    case c5 => omega
    intro v5 w5 hown5 hbel5 hgr5
    have HON : Hid (Ow MtR 3 70 w.heap.size w5 v5 (asM (L.take (k + 1)))) := Lib.hid (by
      rw [asM_take HX.out]
      exact Ow.snoc (w := wA) (mtR_grow _ _ _) HPP.out.1 HPP.out.2.1 (fun q hq => HPP.out.2.2 q hq) hO4 HPL.out.symm hgr5 hown5 rfl HMR.out)
    have HB5 := Lib.hid hbel5
    obtain ⟨vo, vc, rfl, -, -, -⟩ := own_shape hown5
    clear hO4 hown5 hgr5 hbel5 d0 d1
    go_wp2_with fail
    go_roundw
    case rel => exact ⟨k + 1, by omega, by go_num, HON, HB5.out⟩
    case measure => simp [intOf]; omega
set_option maxHeartbeats 4000000 in
set_option maxRecDepth 100000 in
theorem asmatches_any (v : Value) (L : List Lb) (w : World) (hs : Sp LbR 2 w v L) (h0 : L.length ≤ 10) : Calls Tryz.prog 36 #[v] w fun e w' => ∃ v', e = .returned v' ∧ Ow MtR 3 70 w.heap.size w' v' (asM L) ∧ Below w.heap.size w w' := by
  obtain ⟨n, hn⟩ : ∃ n, L.length = n := ⟨_, rfl⟩
  obtain ⟨ao, c, rfl, hnc, hc⟩ := hs.shapeN hn
  have HN := Lib.hid hn
  have hn10 : n ≤ 10 := by omega
  have HS := Lib.hid hs
  clear hn hs h0
  go_enter Tryz.func36, Tryz.ntmps36
  go_wp2_with fail
  go_loopw [3, 8] (fun u i wr => ∃ (k : Nat), k ≤ n ∧ i = .int .i64 k ∧ Hid (Ow MtR 3 70 w.heap.size wr u (asM (L.take k))) ∧ Below w.heap.size w wr) (fun _ i _ => n - (intOf i).toNat)
  case atStart => exact ⟨0, Nat.zero_le _, rfl, Lib.hid Ow.nil, Below.refl _ _⟩
  case round =>
    obtain ⟨k, hk, rfl, HO, hbel⟩ := hrel
    have hsz := hbel.size
    by_cases hlt : k < n
    case neg =>
      obtain rfl : k = n := by omega
      have HO2 : Hid (Ow MtR 3 70 w.heap.size wr u3 (asM L)) := Lib.hid (by have := HO.out; rwa [List.take_of_length_le (by rw [HN.out]; exact Nat.le_refl _)] at this)
      go_wp2_with fail
      go_ret
      exact ⟨_, rfl, HO2.out, hbel⟩
    obtain ⟨x, hx⟩ : ∃ x, L[k]? = some x := ⟨_, List.getElem?_eq_getElem (by rw [HN.out]; exact hlt)⟩
    obtain ⟨b, off, cs, rfl, ⟨rfl, hl1, hl2⟩, _, hck⟩ := (HS.out.below lbR_mono hbel).get hx
    have HX := Lib.hid hx
    have c0 := hck 0 _ rfl
    have c1 := hck 1 _ rfl
    rw [Nat.add_zero] at c0
    have HPL : Hid ((asM (L.take k)).length = k) := Lib.hid (by rw [asM_len, List.length_take, HN.out]; omega)
    obtain ⟨uo, uc, rfl, hu1, hu2⟩ := Sp.shapeN HO.out.sp HPL.out
    obtain ⟨P, hP1, hP2, hP3, hP4⟩ := HO.out
    rw [HPL.out] at hP4
    have HPP := Lib.hid (And.intro hP1 (And.intro hP2 hP3))
    have HOW := Lib.hid hP4
    have HMR : Hid (MtR w ⟨1, x.nm, x.vl⟩ [.int .i64 1, .string (mkS x.nm), .string (mkS x.vl)]) := Lib.hid ⟨rfl, hl1, hl2, (by decide : (-9223372036854775808 : Int) ≤ 1), (by decide : (1 : Int) < 9223372036854775808)⟩
    obtain ⟨Sn, hSn⟩ : ∃ S, S = mkS x.nm := ⟨_, rfl⟩
    obtain ⟨V, hV⟩ : ∃ S, S = mkS x.vl := ⟨_, rfl⟩
    rw [← hSn, ← hV] at HMR
    rw [← hSn] at c0
    rw [← hV] at c1
    clear hck hx hP1 hP2 hP3 hP4 hSn hV hl1 hl2
    go_upto_region 5 with (fail)
    obtain ⟨wA, hwA⟩ : ∃ wA, wA = wr.alloc (Obj.cells #[.string Sn, .string V] 72) := ⟨_, rfl⟩
    have hbox : wA.heap[wr.heap.size]? = some (.cells #[.string Sn, .string V] 72 (0, 0)) := by rw [hwA]; exact heap_alloc_new wr _
    have hbA : Below wr.heap.size wr wA := by rw [hwA]; exact (Below.refl _ _).alloc (Nat.le_refl _) _
    rw [← hwA]
    have HBA := Lib.hid (hbel.trans (hbA.mono hsz))
    have hO4 : wA.ownsRow w.heap.size 70 3 (.slice uo k uc) k (pc P) := own_below HOW.out hbA
    obtain ⟨⟨d0, d1⟩, -⟩ := bx2 hbox
    generalize wr.heap.size = bx at *
    clear hwA hbox hbA c0 c1
    go_wp2_with (at_builtin; refine append1 [.int .i64 1, .string Sn, .string V] elMt rfl _ _ rfl hO4 HBA.out HBA.out.size rfl rfl rfl (by intro x hx; simp at hx; rcases hx with rfl | rfl | rfl <;> rfl) ?c4 ?c5 ?_)
    case c4 => omega
    case c5 => omega
    intro v5 w5 hown5 hbel5 hgr5
    have HON : Hid (Ow MtR 3 70 w.heap.size w5 v5 (asM (L.take (k + 1)))) := Lib.hid (by
      rw [asM_take HX.out]
      exact Ow.snoc (w := wA) (mtR_grow _ _ _) HPP.out.1 HPP.out.2.1 (fun q hq => HPP.out.2.2 q hq) hO4 HPL.out.symm hgr5 hown5 rfl HMR.out)
    have HB5 := Lib.hid hbel5
    obtain ⟨vo, vc, rfl, -, -, -⟩ := own_shape hown5
    clear hO4 hown5 hgr5 hbel5 d0 d1
    go_wp2_with fail
    go_roundw
    case rel => exact ⟨k + 1, by omega, by go_num, HON, HB5.out⟩
    case measure => simp [intOf]; omega
/-- The text, or the fault. -/
def txP (w : World) (F : Int) (t : By) (e : Ending) (w' : World) : Prop := e = .returned (.tuple #[.string (mkS (if F = 0 then t else [])), .int .i64 F]) ∧ Below w.heap.size w w'
set_option maxHeartbeats 4000000 in
set_option maxRecDepth 100000 in
theorem text2_any (v : Value) (L : List Lb) (w : World) (hs : Sp LbR 2 w v L) (hT : STab w) : Calls Tryz.prog 7 #[v] w (txP w (labelF L) (textM (asM L))) := by
  obtain ⟨n, hn⟩ : ∃ n, L.length = n := ⟨_, rfl⟩
  obtain ⟨ao, c, rfl, hnc, hc⟩ := hs.shapeN hn
  have HS := Lib.hid hs
  have HC := Lib.hid (lbcheck_any _ L w hs)
  obtain ⟨E, hE⟩ : ∃ E, labelF L = E := ⟨_, rfl⟩
  rw [hE] at HC ⊢
  have HE := Lib.hid hE
  have HT := Lib.hid hT
  obtain ⟨R, hR⟩ : ∃ R, R = textM (asM L) := ⟨_, rfl⟩
  rw [← hR]
  have HR := Lib.hid hR
  clear hE hs hn hT hR
  by_cases hz : E = 0
  case neg =>
    have t1 : (E != 0) = true := by rw [bne_iff_ne]; exact hz
    have HZ := Lib.hid hz
    clear hz
    go_enter Tryz.func7, Tryz.ntmps7
    go_wp2_with (go_at_call 10; refine HC.out.mono ?_; rintro e w1 ⟨rfl, hb1⟩)
    go_ret2
    exact ⟨by rw [if_neg HZ.out]; rfl, hb1⟩
  subst hz
  have h10 := labelF_len HE.out
  have HM := Lib.hid (fun w1 (hb : Below w.heap.size w w1) => matches_any (.slice ao n c) L w1 (HS.out.below lbR_mono hb) h10)
  clear h10
  go_enter Tryz.func7, Tryz.ntmps7
  go_wp2_with (go_at_call 10; refine HC.out.mono ?_; rintro e w1 ⟨rfl, hb1⟩)
  refine (HM.out w1 hb1).mono ?_
  rintro e w2 ⟨v2, rfl, ho2, hb2⟩
  have HX := Lib.hid (text_any v2 (asM L) w2 ho2.sp (labelF_match HE.out) ((HT.out.below hb1).below hb2))
  have HB := Lib.hid (hb1.trans (hb2.mono hb1.size))
  obtain ⟨vo, vc, rfl, -, -⟩ := ho2.shape
  rw [← HR.out] at HX
  clear ho2 hb1 hb2
  go_wp2_with (go_at_call 32; refine HX.out.mono ?_; rintro e w3 ⟨rfl, hb3⟩; have HB3 := Lib.hid hb3; clear hb3)
  go_ret2
  exact ⟨by rw [if_pos rfl]; rfl, HB.out.trans (HB3.out.mono HB.out.size)⟩
set_option maxHeartbeats 4000000 in
set_option maxRecDepth 100000 in
theorem mtt_any (v : Value) (M : List Mt) (w : World) (hs : Sp MtR 3 w v M) (hT : STab w) : Calls Tryz.prog 25 #[v] w (txP w (matchF M) (textM M)) := by
  obtain ⟨n, hn⟩ : ∃ n, M.length = n := ⟨_, rfl⟩
  obtain ⟨ao, c, rfl, hnc, hc⟩ := hs.shapeN hn
  have HS := Lib.hid hs
  have HC := Lib.hid (mtcheck_any _ M w hs)
  obtain ⟨E, hE⟩ : ∃ E, matchF M = E := ⟨_, rfl⟩
  rw [hE] at HC ⊢
  have HE := Lib.hid hE
  have HT := Lib.hid hT
  obtain ⟨R, hR⟩ : ∃ R, R = textM M := ⟨_, rfl⟩
  rw [← hR]
  have HR := Lib.hid hR
  clear hE hs hn hT hR
  by_cases hz : E = 0
  case neg =>
    have t1 : (E != 0) = true := by rw [bne_iff_ne]; exact hz
    have HZ := Lib.hid hz
    clear hz
    go_enter Tryz.func25, Tryz.ntmps25
    go_wp2_with (go_at_call 54; refine HC.out.mono ?_; rintro e w1 ⟨rfl, hb1⟩)
    go_ret2
    exact ⟨by rw [if_neg HZ.out]; rfl, hb1⟩
  subst hz
  have HX := Lib.hid (fun w1 (hb : Below w.heap.size w w1) => text_any (.slice ao n c) M w1 (HS.out.below mtR_mono hb) HE.out (HT.out.below hb))
  rw [← HR.out] at HX
  go_enter Tryz.func25, Tryz.ntmps25
  go_wp2_with (go_at_call 54; refine HC.out.mono ?_; rintro e w1 ⟨rfl, hb1⟩)
  refine (HX.out w1 hb1).mono ?_
  rintro e w3 ⟨rfl, hb3⟩
  have HB := Lib.hid (hb1.trans (hb3.mono hb1.size))
  clear hb1 hb3
  go_wp2_with fail
  go_ret2
  exact ⟨by rw [if_pos rfl]; rfl, HB.out⟩
set_option maxHeartbeats 4000000 in
set_option maxRecDepth 100000 in
theorem lbtext_any (v : Value) (L : List Lb) (w : World) (hs : Sp LbR 2 w v L) (h0 : labelF L = 0) : Calls Tryz.prog 11 #[v] w fun e w' => e = .returned (.string (mkS (textM (asM L)))) ∧ Below w.heap.size w w' := by
  have h10 := labelF_len h0
  have HM := Lib.hid (asmatches_any v L w hs h10)
  have HE := Lib.hid h0
  obtain ⟨ao, c, rfl, -, -⟩ := hs.shape
  obtain ⟨R, hR⟩ : ∃ R, R = textM (asM L) := ⟨_, rfl⟩
  rw [← hR]
  have HR := Lib.hid hR
  clear hs h10 h0 hR
  go_enter Tryz.func11, Tryz.ntmps11
  go_wp2_with fail
  refine HM.out.mono ?_
  rintro e w2 ⟨v2, rfl, ho2, hb2⟩
  have HX := Lib.hid (mtext_any v2 (asM L) w2 ho2.sp (labelF_match HE.out))
  have HB := Lib.hid hb2
  obtain ⟨vo, vc, rfl, -, -⟩ := ho2.shape
  rw [← HR.out] at HX
  clear ho2 hb2
  go_wp2_with (go_at_call 28; refine HX.out.mono ?_; rintro e w3 ⟨rfl, hb3⟩; have HB3 := Lib.hid hb3; clear hb3)
  go_ret
  exact ⟨rfl, HB.out.trans (HB3.out.mono HB.out.size)⟩
end Go.Proofs.YtlfhcjhbnakamaaGreatDoor.Lab
/-
  Labels that fit matches: as plain functions; the walks of Value and ValueIn.
-/
namespace Go.Gh
set_option linter.unusedVariables false
set_option linter.unusedSimpArgs false
/-- The value of a name: the first one's. -/
def valF (L : List Lb) (n : By) : By := match L.find? (fun x => decide (x.nm = n)) with | some x => x.vl | none => []
def valStep (n : By) (v : By) (x : Lb) : By := if x.nm = n then x.vl else v
/-- .. the last one's. -/
def valL (L : List Lb) (n : By) : By := L.foldl (valStep n) []
theorem valF_hit {L : List Lb} {n : By} {k : Nat} {x : Lb} (h : ∀ y ∈ L.take k, y.nm ≠ n) (hx : L[k]? = some x) (hn : x.nm = n) : valF L n = x.vl := by
  obtain ⟨h1, h2⟩ := List.getElem?_eq_some_iff.1 hx
  have e : L = L.take k ++ x :: L.drop (k + 1) := by
    rw [← h2, ← List.drop_eq_getElem_cons h1, List.take_append_drop]
  unfold valF
  rw [e, List.find?_append]
  have h0 : (L.take k).find? (fun x => decide (x.nm = n)) = none := by
    rw [List.find?_eq_none]
    intro y hy
    simpa using h y hy
  rw [h0, List.find?_cons]
  simp [hn]
theorem valF_none {L : List Lb} {n : By} (h : ∀ y ∈ L, y.nm ≠ n) : valF L n = [] := by
  unfold valF
  have h0 : L.find? (fun x => decide (x.nm = n)) = none := by
    rw [List.find?_eq_none]
    intro y hy
    simpa using h y hy
  rw [h0]
theorem valL_next {L : List Lb} {n : By} {k : Nat} {x : Lb} (hx : L[k]? = some x) : valL (L.take (k + 1)) n = if x.nm = n then x.vl else valL (L.take k) n := by
  unfold valL
  rw [List.take_add_one, hx, List.foldl_append]
  rfl
theorem goL_gt : ∀ (l : List Lb) (q : By), goL (some q) l = 0 → ∀ x ∈ l, q < x.nm
  | [], q, _, x, hx => by simp at hx
  | y :: r, q, h, x, hx => by
    rw [goL_cons] at h
    split at h
    · exact absurd h (by decide)
    split at h
    · exact absurd h (by decide)
    rename_i h2
    split at h
    · exact absurd h (by decide)
    have hq : q < y.nm := by
      unfold badO at h2
      simpa using h2
    rcases List.mem_cons.1 hx with rfl | hx
    · exact hq
    · exact List.lt_trans hq (goL_gt r y.nm h x hx)
theorem fold_none {n : By} : ∀ (l : List Lb) (v : By), (∀ x ∈ l, x.nm ≠ n) → l.foldl (valStep n) v = v
  | [], v, _ => rfl
  | x :: l, v, h => by
    rw [List.foldl_cons]
    have : valStep n v x = v := by unfold valStep; rw [if_neg (h x (by simp))]
    rw [this]
    exact fold_none l v (fun y hy => h y (by simp [hy]))
theorem fold_find {n : By} : ∀ (l : List Lb) (p : Option By), goL p l = 0 → l.foldl (valStep n) [] = match l.find? (fun x => decide (x.nm = n)) with | some x => x.vl | none => []
  | [], _, _ => rfl
  | x :: l, p, h => by
    rw [goL_cons] at h
    split at h
    · exact absurd h (by decide)
    split at h
    · exact absurd h (by decide)
    split at h
    · exact absurd h (by decide)
    rw [List.foldl_cons, List.find?_cons]
    by_cases hx : x.nm = n
    · have e : valStep n [] x = x.vl := by unfold valStep; rw [if_pos hx]
      rw [e, decide_eq_true hx]
      exact fold_none l x.vl (fun y hy e => by
        have := goL_gt l x.nm h y hy
        rw [hx, e] at this
        exact absurd this (List.lt_irrefl _))
    · have e : valStep n [] x = [] := by unfold valStep; rw [if_neg hx]
      rw [e, decide_eq_false hx]
      exact fold_find l (some x.nm) h
theorem val_same {L : List Lb} (h : labelF L = 0) (n : By) : valL L n = valF L n := by
  unfold labelF at h
  split at h
  · exact absurd h (by decide)
  · exact fold_find L none h
/-- Does a match fit? -/
def fitB (L : List Lb) (m : Mt) : Bool :=
  if m.kd = 1 then decide (valF L m.nm = m.vl) else if m.kd = 2 then !decide (valF L m.nm = m.vl) else if m.kd = 3 then m.vl.isPrefixOf (valF L m.nm) else Lib.contains (valF L m.nm) m.vl
def fitsB (L : List Lb) (M : List Mt) : Bool := M.all (fitB L)
theorem fits_yes {L : List Lb} {M : List Mt} {k : Nat} {x : Mt} (h : (M.take k).all (fitB L) = true) (hx : M[k]? = some x) (hf : fitB L x = true) : (M.take (k + 1)).all (fitB L) = true := by
  rw [List.take_add_one, hx, List.all_append, h]
  simp [hf]
theorem fits_no {L : List Lb} {M : List Mt} {k : Nat} {x : Mt} (hx : M[k]? = some x) (hf : fitB L x = false) : fitsB L M = false := by
  unfold fitsB
  rw [List.all_eq_false]
  exact ⟨x, List.mem_of_getElem? hx, by rw [hf]; simp⟩
/-- Is there one among the first k places? -/
theorem contains_upto (v s : By) : Lib.contains v s = (List.range (v.length + 1)).any fun i => s.isPrefixOf (v.drop i) := by
  unfold Lib.contains
  rw [Bool.eq_iff_iff, decide_eq_true_eq, List.any_eq_true]
  rcases Lib.index_spec v s with ⟨h1, h2⟩ | ⟨i, h1, h2, h3, _⟩
  · constructor
    · intro h; omega
    · rintro ⟨j, hj, hp⟩
      have := h2 j (by have := List.mem_range.1 hj; omega)
      unfold Lib.occAt at this
      rw [this] at hp
      simp at hp
  · constructor
    · intro _
      exact ⟨i, List.mem_range.2 (by omega), h3⟩
    · intro _; omega
theorem any_next (v s : By) (k : Nat) : ((List.range (k + 1)).any fun i => s.isPrefixOf (v.drop i)) = (((List.range k).any fun i => s.isPrefixOf (v.drop i)) || s.isPrefixOf (v.drop k)) := by
  rw [List.range_succ, List.any_append]
  simp
end Go.Gh
namespace Go.Proofs.YtlfhcjhbnakamaaGreatDoor.Lab
open Go.RowKit Go.Gh
set_option linter.unusedVariables false
set_option linter.unusedSimpArgs false
set_option maxHeartbeats 4000000 in
set_option maxRecDepth 100000 in
theorem value_any (v : Value) (L : List Lb) (nm : By) (w : World) (hs : Sp LbR 2 w v L) : Calls Tryz.prog 67 #[v, .string (mkS nm)] w fun e w' => e = .returned (.string (mkS (valF L nm))) ∧ Below w.heap.size w w' := by
  obtain ⟨n, hn⟩ : ∃ n, L.length = n := ⟨_, rfl⟩
  obtain ⟨ao, c, rfl, hnc, hc⟩ := hs.shapeN hn
  have HN := Lib.hid hn
  have HS := Lib.hid hs
  obtain ⟨R, hR⟩ : ∃ R, mkS (valF L nm) = R := ⟨_, rfl⟩
  rw [hR]
  have HR := Lib.hid hR
  obtain ⟨Q, hQ⟩ : ∃ Q, mkS nm = Q := ⟨_, rfl⟩
  rw [hQ]
  have HQ := Lib.hid hQ
  clear hn hs hR hQ
  go_enter Tryz.func67, Tryz.ntmps67
  go_wp2_with fail
  go_loopw [9] (fun i wr => ∃ (k : Nat), k ≤ n ∧ i = .int .i64 k ∧ Hid (∀ y ∈ L.take k, y.nm ≠ nm) ∧ Below w.heap.size w wr) (fun i _ => n - (intOf i).toNat)
  case atStart => exact ⟨0, Nat.zero_le _, rfl, Lib.hid (fun y hy => by simp at hy), Below.refl _ _⟩
  case round =>
    obtain ⟨k, hk, rfl, HT, hbel⟩ := hrel
    have hsz := hbel.size
    by_cases hlt : k < n
    case neg =>
      obtain rfl : k = n := by omega
      have HF : Hid (R = ⟨#[]⟩) := Lib.hid (by
        have h := HT.out
        rw [List.take_of_length_le (by rw [HN.out]; exact Nat.le_refl _)] at h
        rw [← HR.out, valF_none h]
        rfl)
      go_wp2_with fail
      go_ret
      exact ⟨by rw [HF.out]; rfl, hbel⟩
    obtain ⟨x, hx⟩ : ∃ x, L[k]? = some x := ⟨_, List.getElem?_eq_getElem (by rw [HN.out]; exact hlt)⟩
    obtain ⟨b, off, cs, rfl, ⟨rfl, hl1, hl2⟩, _, hck⟩ := (HS.out.below lbR_mono hbel).get hx
    have HX := Lib.hid hx
    have c0 := hck 0 _ rfl
    have c1 := hck 1 _ rfl
    rw [Nat.add_zero] at c0
    have heq : ((mkS x.nm).toList == Q.toList) = decide (x.nm = nm) := by
      rw [← HQ.out, mkS_list, mkS_list, Bool.eq_iff_iff]
      simp
    obtain ⟨Sn, hSn⟩ : ∃ S, mkS x.nm = S := ⟨_, rfl⟩
    obtain ⟨V, hV⟩ : ∃ S, mkS x.vl = S := ⟨_, rfl⟩
    rw [hSn] at c0 heq
    rw [hV] at c1
    have HV := Lib.hid hV
    clear hck hx hl1 hl2 hSn hV
    by_cases he : x.nm = nm
    · rw [decide_eq_true he] at heq
      have HF : Hid (R = V) := Lib.hid (by rw [← HR.out, valF_hit HT.out HX.out he]; exact HV.out)
      clear he
      go_wp2_with fail
      go_ret
      refine ⟨by rw [HF.out]; rfl, ?_⟩
      exact hbel.alloc hsz _
    · rw [decide_eq_false he] at heq
      have HT2 : Hid (∀ y ∈ L.take (k + 1), y.nm ≠ nm) := Lib.hid (fun y hy => by
        rw [List.take_add_one, HX.out] at hy
        rcases List.mem_append.1 hy with h | h
        · exact HT.out y h
        · have : y = x := by simpa using h
          rw [this]; exact he)
      have HB2 := Lib.hid (hbel.alloc hsz (Obj.cells #[.string Sn, .string V] 72))
      clear he
      go_wp2_with fail
      go_roundw
      case rel => exact ⟨k + 1, by omega, by go_num, HT2, HB2.out⟩
      case measure => simp [intOf]; omega
set_option maxHeartbeats 4000000 in
set_option maxRecDepth 100000 in
theorem valuein_any (v : Value) (L : List Lb) (nm : By) (w : World) (hs : Sp LbR 2 w v L) : Calls Tryz.prog 61 #[v, .string (mkS nm)] w fun e w' => e = .returned (.string (mkS (valL L nm))) ∧ Below w.heap.size w w' := by
  obtain ⟨n, hn⟩ : ∃ n, L.length = n := ⟨_, rfl⟩
  obtain ⟨ao, c, rfl, hnc, hc⟩ := hs.shapeN hn
  have HN := Lib.hid hn
  have HS := Lib.hid hs
  obtain ⟨Q, hQ⟩ : ∃ Q, mkS nm = Q := ⟨_, rfl⟩
  rw [hQ]
  have HQ := Lib.hid hQ
  clear hn hs hQ
  go_enter Tryz.func61, Tryz.ntmps61
  go_wp2_with fail
  go_loopw [5, 10] (fun u i wr => ∃ (k : Nat), k ≤ n ∧ i = .int .i64 k ∧ u = .string (mkS (valL (L.take k) nm)) ∧ Below w.heap.size w wr) (fun _ i _ => n - (intOf i).toNat)
  case atStart => exact ⟨0, Nat.zero_le _, rfl, rfl, Below.refl _ _⟩
  case round =>
    obtain ⟨k, hk, rfl, rfl, hbel⟩ := hrel
    have hsz := hbel.size
    by_cases hlt : k < n
    case neg =>
      obtain rfl : k = n := by omega
      have HF : Hid (valL (L.take k) nm = valL L nm) := Lib.hid (by rw [List.take_of_length_le (by rw [HN.out]; exact Nat.le_refl _)])
      go_wp2_with fail
      go_ret
      exact ⟨by rw [← HF.out]; rfl, hbel⟩
    obtain ⟨x, hx⟩ : ∃ x, L[k]? = some x := ⟨_, List.getElem?_eq_getElem (by rw [HN.out]; exact hlt)⟩
    obtain ⟨b, off, cs, rfl, ⟨rfl, hl1, hl2⟩, _, hck⟩ := (HS.out.below lbR_mono hbel).get hx
    have HVN := Lib.hid (valL_next (n := nm) hx)
    have c0 := hck 0 _ rfl
    have c1 := hck 1 _ rfl
    rw [Nat.add_zero] at c0
    have heq : ((mkS x.nm).toList == Q.toList) = decide (x.nm = nm) := by
      rw [← HQ.out, mkS_list, mkS_list, Bool.eq_iff_iff]
      simp
    obtain ⟨Sn, hSn⟩ : ∃ S, mkS x.nm = S := ⟨_, rfl⟩
    obtain ⟨V, hV⟩ : ∃ S, mkS x.vl = S := ⟨_, rfl⟩
    rw [hSn] at c0 heq
    rw [hV] at c1
    have HV := Lib.hid hV
    have HB2 := Lib.hid (hbel.alloc hsz (Obj.cells #[.string Sn, .string V] 72))
    clear hck hx hl1 hl2 hSn hV
    by_cases he : x.nm = nm
    · rw [decide_eq_true he] at heq
      have HF : Hid (V = mkS (valL (L.take (k + 1)) nm)) := Lib.hid (by rw [HVN.out, if_pos he]; exact HV.out.symm)
      clear he
      go_wp2_with fail
      go_roundw
      case rel => exact ⟨k + 1, by omega, by go_num, by rw [HF.out], HB2.out⟩
      case measure => simp [intOf]; omega
    · rw [decide_eq_false he] at heq
      have HF : Hid (valL (L.take k) nm = valL (L.take (k + 1)) nm) := Lib.hid (by rw [HVN.out, if_neg he])
      clear he
      go_wp2_with fail
      go_roundw
      case rel => exact ⟨k + 1, by omega, by go_num, by rw [HF.out], HB2.out⟩
      case measure => simp [intOf]; omega
end Go.Proofs.YtlfhcjhbnakamaaGreatDoor.Lab
/-
  Contracts of the library at this program, laid by the kit's own tool (in plain words).
-/
namespace Go.Proofs
open Go.Shelf
def YtlfhcjhbnakamaaGreatDoor.lays144_ren : Go.Shelf.Ren := ⟨fun | 144 => 69 | 143 => 81 | 219 => 94 | 217 => 109 | 225 => 98 | 224 => 97 | 267 => 110 | 266 => 119 | 314 => 120 | n => n, fun | 9 => 9 | 4 => 4 | 3 => 3 | 5 => 5 | 46 => 102 | 146 => 177 | 51 => 127 | n => n, fun | 1 => 3 | n => n⟩
theorem YtlfhcjhbnakamaaGreatDoor.lays144 : Go.Proofs.Lays.n144 Tryz.prog YtlfhcjhbnakamaaGreatDoor.lays144_ren := {
  mixed := by kernel_rfl
  f143 := Tryz.func81.trans (congrArg some (by kernel_rfl))
  f144 := Tryz.func69.trans (congrArg some (by kernel_rfl))
  f217 := Tryz.func109.trans (congrArg some (by kernel_rfl))
  f219 := Tryz.func94.trans (congrArg some (by kernel_rfl))
  f224 := Tryz.func97.trans (congrArg some (by kernel_rfl))
  f225 := Tryz.func98.trans (congrArg some (by kernel_rfl))
  f266 := Tryz.func119.trans (congrArg some (by kernel_rfl))
  f267 := Tryz.func110.trans (congrArg some (by kernel_rfl))
  f314 := Tryz.func120.trans (congrArg some (by kernel_rfl))
  t3 := Tryz.underlying3
  a3 := Tryz.isAgg3
  z3 := Tryz.sizeOf3
  v3 := Tryz.zeroValue3
  t4 := Tryz.underlying4
  a4 := Tryz.isAgg4
  z4 := Tryz.sizeOf4
  v4 := Tryz.zeroValue4
  t5 := Tryz.underlying5
  a5 := Tryz.isAgg5
  z5 := Tryz.sizeOf5
  v5 := Tryz.zeroValue5
  t9 := Tryz.underlying9
  a9 := Tryz.isAgg9
  z9 := Tryz.sizeOf9
  v9 := Tryz.zeroValue9
  t46 := Tryz.underlying102
  a46 := Tryz.isAgg102
  z46 := Tryz.sizeOf102
  v46 := Tryz.zeroValue102
  t51 := Tryz.underlying127
  a51 := Tryz.isAgg127
  z51 := Tryz.sizeOf127
  v51 := Tryz.zeroValue127
  t146 := Tryz.underlying177
  a146 := Tryz.isAgg177
  z146 := Tryz.sizeOf177
  v146 := Tryz.zeroValue177
  g1 := by kernel_rfl }
open Go.RowKit Go.Lib in
theorem YtlfhcjhbnakamaaGreatDoor.strings_Contains (s sub : ByteArray) (m : Int) (w : World) (hs : s.size < 4294967281) (hm : w.cell? ⟨3, 0, none⟩ = some (.int .i64 m)) :
    Calls Tryz.prog 69 #[.string s, .string sub] w fun e w' => e = .returned (.bool (Lib.contains s.data.toList sub.data.toList)) ∧ w' = w := Any.strings_Contains YtlfhcjhbnakamaaGreatDoor.lays144 s sub m w hs hm
end Go.Proofs
/-
  Plain facts about numbers as bytes: signs turned into the last bit, and groups of seven bits.
-/
namespace Go.Gh
open Go.RowKit

theorem u64_xor_zero (x : Int) (h0 : 0 ≤ x) (h1 : x < 18446744073709551616) : bits .xor .u64 x 0 = x := by
  rw [u64_xor x 0 h0 h1 (by decide) (by decide)]
  simp [Int.toNat_of_nonneg h0]

theorem u64_xor_ones (x : Int) (h0 : 0 ≤ x) (h1 : x < 18446744073709551616) : bits .xor .u64 x 18446744073709551615 = 18446744073709551615 - x := by
  obtain ⟨n, rfl⟩ := Int.eq_ofNat_of_zero_le h0
  have hn : n < 2 ^ 64 := by omega
  rw [u64_xor _ _ h0 h1 (by decide) (by decide), Int.toNat_natCast]
  have e : (18446744073709551615 : Int).toNat = (BitVec.allOnes 64).toNat := by decide
  have e2 : n = (BitVec.ofNat 64 n).toNat := by simp [Nat.mod_eq_of_lt hn]
  rw [e]
  have e3 : n ^^^ (BitVec.allOnes 64).toNat = (BitVec.ofNat 64 n ^^^ BitVec.allOnes 64).toNat := by rw [BitVec.toNat_xor, ← e2]
  rw [e3, BitVec.xor_allOnes, BitVec.toNat_not, ← e2]
  omega

theorem i64_xor_zero (a : Int) (h0 : 0 ≤ a) (h1 : a < 9223372036854775808) : bits .xor .i64 a 0 = a := by
  have e : BitVec.ofInt 64 0 = 0#64 := rfl
  show IntKind.i64.wrap ((BitVec.ofInt 64 a ^^^ BitVec.ofInt 64 0).toNat : Int) = a
  rw [e, BitVec.xor_zero, BitVec.toNat_ofInt, Int.toNat_of_nonneg (by omega)]
  rw [IntKind.wrap_i64]
  omega

theorem i64_xor_ones (a : Int) (h0 : 0 ≤ a) (h1 : a < 9223372036854775808) : bits .xor .i64 a (-1) = -a - 1 := by
  have e : BitVec.ofInt 64 (-1) = BitVec.allOnes 64 := by decide
  show IntKind.i64.wrap ((BitVec.ofInt 64 a ^^^ BitVec.ofInt 64 (-1)).toNat : Int) = -a - 1
  rw [e, BitVec.xor_allOnes, BitVec.toNat_not, BitVec.toNat_ofInt]
  rw [IntKind.wrap_i64]
  omega

theorem and_one (u : Int) (h0 : 0 ≤ u) (h1 : u < 18446744073709551616) : bits .and .u64 u 1 = u % 2 := by
  rw [u64_and u 1 h0 h1 (by decide) (by decide)]
  have e : (1 : Int).toNat = 1 := rfl
  rw [e, nat_mask1]
  omega
end Go.Gh
/-
  Slices of bytes: their elements.
-/
namespace Go.Proofs.YtlfhcjhbnakamaaGreatDoor.Bits
open Go.RowKit Go.Gh Go.WideShapes
set_option linter.unusedVariables false

theorem infoU8 : (Tryz.prog.info? 5).map (fun i => (i.zero, i.size, i.bytes)) = some (some (.int .u8 0), 1, 1) := by kernel_rfl

theorem elU8 : Elem Tryz.prog 45 5 1 1 := elem_of Tryz.underlying45 infoU8 rfl (by decide)
theorem ints_one (k : IntKind) (l : List Int) : ∀ u ∈ l.map (Value.int k), u.oneCell' = true := by
  intro u hu; simp at hu; obtain ⟨z, _, rfl⟩ := hu; rfl
end Go.Proofs.YtlfhcjhbnakamaaGreatDoor.Bits
