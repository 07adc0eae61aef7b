/-
  Matches: the walk of text.
-/
import Derived.Test.YtjmplhkdohlbcaaGreatDoorEz1
import Derived.Test.YtjmplhkdohlbcaaGreatDoorEz4
import Derived.Test.YtjmplhkdohlbcaaGreatDoorEz6
import Derived.Deep.RegionHeld3
import Derived.Lib.Join
namespace Go.Proofs.YtjmplhkdohlbcaaGreatDoor.Lab
open Go.RowKit Go.Gh
set_option linter.unusedVariables false
set_option linter.unusedSimpArgs false
/-- The table of signs. -/
def STab (w : World) : Prop := ∀ k : Nat, k < 5 → w.cell? ⟨0, k, none⟩ = some (.string (mkS (sgn k)))
theorem STab.below {w w' : World} (h : STab w) (hb : Below w.heap.size w w') : STab w' := fun k hk => (hb.cell (p := ⟨0, k, none⟩) (cell_lt (h k hk))).trans (h k hk)
theorem commas_join : ∀ l : List By, commas l = Lib.join l [44]
  | [] => rfl
  | [x] => (Lib.join_one x [44]).symm
  | x :: y :: r => by
    have ih := commas_join (y :: r)
    rw [commas, ih]
    simp [Lib.join, List.intercalate, List.intersperse]
theorem esc_le (v : By) : (esc v).length ≤ 2 * v.length := by
  rw [Rep.esc_len]
  have := Rep.sp_len v
  omega
theorem sgn_le (k : Int) : (sgn k).length ≤ 2 := by
  unfold sgn
  split; decide
  split; decide
  split; decide
  split; decide
  decide
theorem mtx_le {m : Mt} (h1 : m.nm.length ≤ 20) (h2 : m.vl.length ≤ 40) : (mtx m).length ≤ 104 := by
  unfold mtx quo
  have h3 := esc_le m.vl
  have h4 := sgn_le m.kd
  simp only [List.length_append, List.length_cons, List.length_nil]
  omega
theorem commas_le : ∀ (l : List By), (∀ x ∈ l, x.length ≤ 104) → (commas l).length ≤ 105 * l.length
  | [], _ => by decide
  | [x], h => by
    have := h x (by simp)
    show x.length ≤ _
    simp; omega
  | x :: y :: r, h => by
    have h1 := h x (by simp)
    have ih := commas_le (y :: r) (fun z hz => h z (by simp [hz]))
    rw [commas, List.length_append, List.length_cons]
    simp only [List.length_cons] at ih ⊢
    omega
theorem ok_mem {M : List Mt} (h : matchF M = 0) {m : Mt} (hm : m ∈ M) : 1 ≤ m.kd ∧ m.kd ≤ 4 ∧ m.nm.length ≤ 20 ∧ m.vl.length ≤ 40 := by
  obtain ⟨h1, h2, h3, h4⟩ := (matchF_zero h).2 m hm
  exact ⟨h1, h2, (nameOk_all h3).2.1, h4⟩
theorem commas_ok {M : List Mt} (h : matchF M = 0) : (commas (M.map mtx)).length ≤ 1050 := by
  have h1 := commas_le (M.map mtx) (fun x hx => by
    obtain ⟨m, hm, rfl⟩ := List.mem_map.1 hx
    obtain ⟨_, _, q3, q4⟩ := ok_mem h hm
    exact mtx_le q3 q4)
  rw [List.length_map] at h1
  have := (matchF_zero h).1
  omega
theorem own_some {w : World} {B n : Nat} {e : TypeId} {uo : Option Addr} {uc size : Nat} {xs : List Value} (h : w.ownsRow B e size (.slice uo n uc) n xs) (hn : 0 < n) : ∃ g, uo = some ⟨g, 0, none⟩ := by
  rcases h.2 with ⟨_, e⟩ | ⟨g, cap, cur, e, _⟩
  · omega
  · injection e with e1 e2 e3
    exact ⟨g, e1⟩
theorem own_cap {w : World} {B n : Nat} {e : TypeId} {uo : Option Addr} {uc size : Nat} {xs : List Value} (h : w.ownsRow B e size (.slice uo n uc) n xs) : n ≤ uc := by
  obtain ⟨ao, c, e, h1, _⟩ := own_shape h
  injection e with e1 e2 e3
  omega
def mtS (m : Mt) : Value := .string (mkS (mtx m))
set_option maxHeartbeats 8000000 in
set_option maxRecDepth 100000 in
theorem text_any (v : Value) (M : List Mt) (w : World) (hs : Sp MtR 3 w v M) (h0 : matchF M = 0) (hT : STab w) : Calls Tryz.prog 36 #[v] w fun e w' => e = .returned (.string (mkS (textM M))) ∧ Below w.heap.size w w' := by
  obtain ⟨n, hn⟩ : ∃ n, M.length = n := ⟨_, rfl⟩
  obtain ⟨ao, c, rfl, hnc, hc⟩ := hs.shapeN hn
  have HN := Lib.hid hn
  have hn10 : n ≤ 10 := by have := (matchF_zero h0).1; omega
  have HOK := Lib.hid (fun m (hm : m ∈ M) => ok_mem h0 hm)
  have HCM := Lib.hid (commas_ok h0)
  have HS := Lib.hid hs
  have HT := Lib.hid hT
  obtain ⟨R, hR⟩ : ∃ R, mkS (textM M) = R := ⟨_, rfl⟩
  rw [hR]
  have HR := Lib.hid hR
  clear hn h0 hs hT hR
  go_enter Tryz.func36, Tryz.ntmps36
  go_wp2_with fail
  go_loopw [3, 8] (fun o i wr => ∃ k : Nat, k ≤ n ∧ i = .int .i64 k ∧ Hid (wr.ownsRow w.heap.size 9 1 o k ((M.take k).map mtS)) ∧ Hid (Below w.heap.size w wr)) (fun _ i _ => n - (intOf i).toNat)
  case atStart => exact ⟨0, Nat.zero_le _, rfl, Lib.hid (World.ownsRow_nil _ _ _ _), Lib.hid (Below.refl _ _)⟩
  case round =>
    obtain ⟨k, hk, rfl, HO, HB⟩ := hrel
    obtain ⟨uo, uc, rfl, -, -, -⟩ := own_shape HO.out
    by_cases hlt : k < n
    case neg =>
      obtain rfl : k = n := by omega
      have HL : Hid (commas (M.map mtx) = Lib.join ((M.map fun m => mkS (mtx m)).map (·.data.toList)) (⟨#[44]⟩ : ByteArray).data.toList) := Lib.hid (by
        rw [commas_join, List.map_map]
        rfl)
      have hcl := HCM.out
      obtain ⟨E, hE⟩ : ∃ E, E = mkS (commas (M.map mtx)) := ⟨_, rfl⟩
      have hEs : E.size ≤ 1050 := by rw [hE, mkS_size]; exact hcl
      have hs1 : 1 + E.size ≤ 9223372036854775807 := by omega
      have hs2 : 1 + E.size + 1 ≤ 9223372036854775807 := by omega
      have HE : Hid ((⟨#[123]⟩ : ByteArray) ++ E ++ ⟨#[125]⟩ = R) := Lib.hid (by
        rw [← HR.out, hE]
        show mkS [123] ++ mkS _ ++ mkS [125] = _
        rw [mkS_app, mkS_app]
        unfold textM
        rfl)
      have HJ : Hid (Calls Tryz.prog 68 #[.slice uo k uc, .string ⟨#[44]⟩] wr fun e w' => e = .returned (.string E) ∧ Below wr.heap.size wr w') := Lib.hid (by
        rcases Nat.eq_zero_or_pos k with h0 | h0
        · have hM0 : M = [] := List.length_eq_zero_iff.1 (HN.out.trans h0)
          refine (YtjmplhkdohlbcaaGreatDoor.strings_Join_none uo uc ⟨#[44]⟩ wr).mono ?_ |> fun h => by rw [h0]; exact h
          rintro e w' ⟨rfl, rfl⟩
          exact ⟨by rw [hE, hM0]; rfl, Below.refl _ _⟩
        · obtain ⟨g, rfl⟩ := own_some HO.out h0
          have hlt2 : g < wr.heap.size := (HO.out.lt g rfl).2
          have hcells : ∀ (j : Nat) y, (M.map fun m => mkS (mtx m))[j]? = some y → wr.cell? ⟨g, 0 + j, none⟩ = some (.string y) := by
            intro j y hj
            have h := HO.out.cells (g := g) rfl j (.string y) (by
              rw [List.take_of_length_le (Nat.le_of_eq HN.out)]
              rw [List.getElem?_map] at hj ⊢
              obtain ⟨m, hm, rfl⟩ := Option.map_eq_some_iff.1 hj
              rw [hm]
              rfl)
            rw [addr_add] at h
            exact h
          have hxl : (M.map fun m => mkS (mtx m)).length = k := by rw [List.length_map, HN.out]
          have h := YtjmplhkdohlbcaaGreatDoor.strings_Join g 0 uc (M.map fun m => mkS (mtx m)) ⟨#[44]⟩ wr hcells hlt2 (by rw [hxl]; omega) (by rw [hxl]; exact (own_cap HO.out)) (by rw [← HL.out]; omega)
          rw [hxl, ← HL.out] at h
          refine h.mono ?_
          rintro e w' ⟨rfl, hb⟩
          exact ⟨by rw [hE]; rfl, hb⟩)
      clear hE hcl hEs
      go_wp2_with fail
      refine HJ.out.mono ?_
      rintro e w2 ⟨rfl, hb2⟩
      have HB2 := Lib.hid (HB.out.trans (hb2.mono HB.out.size))
      clear hb2
      go_wp2_with fail
      go_ret
      exact ⟨by rw [← HE.out]; rfl, HB2.out⟩
    obtain ⟨x, hx⟩ : ∃ x, M[k]? = some x := ⟨_, List.getElem?_eq_getElem (by rw [HN.out]; exact hlt)⟩
    obtain ⟨o1, o2, o3, o4⟩ := HOK.out x (List.mem_of_getElem? hx)
    obtain ⟨b, off, cs, rfl, ⟨rfl, hb1, hb2, hk1, hk2⟩, _, hck⟩ := (HS.out.below mtR_mono HB.out).get hx
    have c0 := hck 0 _ rfl
    have c1 := hck 1 _ rfl
    have c2 := hck 2 _ rfl
    rw [Nat.add_zero] at c0
    obtain ⟨κ, hκ⟩ : ∃ κ : Nat, x.kd = (κ : Int) := ⟨x.kd.toNat, by omega⟩
    rw [hκ] at c0 o1 o2
    have hκ5 : κ < 5 := by omega
    have hκi : (κ : Int) < 5 := by omega
    obtain ⟨Sn, hSn⟩ : ∃ S, S = mkS x.nm := ⟨_, rfl⟩
    obtain ⟨V, hV⟩ : ∃ S, S = mkS x.vl := ⟨_, rfl⟩
    obtain ⟨Sg, hSg⟩ : ∃ S, S = mkS (sgn κ) := ⟨_, rfl⟩
    obtain ⟨Qv, hQv⟩ : ∃ S, S = mkS (quo x.vl) := ⟨_, rfl⟩
    have hsz1 : Sn.size ≤ 20 := by rw [hSn, mkS_size]; exact o3
    have hsz2 : Sg.size ≤ 2 := by rw [hSg, mkS_size]; exact sgn_le _
    have hsz3 : Qv.size ≤ 82 := by
      rw [hQv, mkS_size]
      unfold quo
      have := esc_le x.vl
      simp only [List.length_cons, List.length_append, List.length_nil]
      omega
    have HMX : Hid (.string (Sn ++ Sg ++ Qv) = mtS x) := Lib.hid (by
      rw [hSn, hSg, hQv, mkS_app, mkS_app]
      unfold mtS mtx
      rw [hκ, List.append_assoc])
    have HQ := Lib.hid (fun W => Rep.quoted_any x.vl W (by omega))
    rw [← hV] at c2
    rw [← hSn] at c1
    rw [← hV, ← hQv] at HQ
    have hg := (HT.out.below HB.out) κ hκ5
    rw [← hSg] at hg
    have HNX : Hid ((M.take (k + 1)).map mtS = (M.take k).map mtS ++ [.string (Sn ++ Sg ++ Qv)]) := Lib.hid (by
      rw [List.take_add_one, hx, List.map_append, HMX.out]
      rfl)
    obtain ⟨G, hG⟩ : ∃ G, G = wr.heap.size := ⟨_, rfl⟩
    have HNG : Hid (some G ≠ (Value.slice uo k uc).ownBlock) := Lib.hid (fun h => by have := (HO.out.lt G h.symm).2; omega)
    have HN0 : Hid (some 0 ≠ (Value.slice uo k uc).ownBlock) := Lib.hid (fun h => by
      have h1 := (HO.out.lt 0 h.symm).1
      have h2 := cell_lt (HT.out 0 (by decide))
      omega)
    have hs1 : (9223372036854775807 < Sn.size + Sg.size) = False := eq_false (by omega)
    have hs2 : (9223372036854775807 < Sn.size + Sg.size + Qv.size) = False := eq_false (by omega)
    clear hSn hV hSg hQv hck hx hκ hsz1 hsz2 hsz3 o1 o2 o3 o4 hk1 hk2 hb1 hb2
    go_upto_region 5 with (fail)
    obtain ⟨W5, hW5⟩ : ∃ W5, W5 = wr.alloc (Obj.cells #[.int .i64 κ, .string Sn, .string V] 73) := ⟨_, rfl⟩
    rw [← hW5, ← hG]
    have hbox : W5.heap[G]? = some (.cells #[.int .i64 κ, .string Sn, .string V] 73 (0, 0)) := by rw [hW5, hG]; exact heap_alloc_new wr _
    have hbw : Below wr.heap.size wr W5 := by rw [hW5]; exact (Below.refl _ _).alloc (Nat.le_refl _) _
    have HO5 : Hid (W5.drew.ownsRow w.heap.size 9 1 (.slice uo k uc) k ((M.take k).map mtS)) := Lib.hid (own_below (own_below HO.out hbw) (Below.refl _ _).drew)
    have HB5 : Hid (Below w.heap.size w W5.drew) := Lib.hid (HB.out.trans (hbw.mono HB.out.size)).drew
    have y0 : W5.drew.cell? ⟨G, 0, none⟩ = some (.int .i64 κ) := (row_cell 0 _ hbox rfl).1
    have y1 : W5.drew.cell? ⟨G, 1, none⟩ = some (.string Sn) := (row_cell 1 _ hbox rfl).1
    have y2 : W5.drew.cell? ⟨G, 2, none⟩ = some (.string V) := (row_cell 2 _ hbox rfl).1
    have y3 : W5.drew.cell? ⟨0, κ, none⟩ = some (.string Sg) := (hbw.cell (cell_lt hg)).trans hg
    have hs5 : w.heap.size ≤ W5.drew.heap.size := HB5.out.size
    clear hW5 hG hbox hbw hg c0 c1 c2
    go_region_held3 (fun w' => w'.cell? ⟨G, 0, none⟩ = some (.int .i64 κ) ∧ w'.cell? ⟨G, 1, none⟩ = some (.string Sn) ∧ w'.cell? ⟨G, 2, none⟩ = some (.string V) ∧ w'.cell? ⟨0, κ, none⟩ = some (.string Sg)) (first | (with_reducible exact ⟨y0, y1, y2, y3⟩) | (with_reducible exact ⟨z0, z1, z2, z3⟩) | (with_reducible exact ⟨r0, r1, r2, r3⟩) | go_keep) (first
      | (go_at_call 67; refine (HQ.out _).mono ?_; rintro e w2 ⟨rfl, hb2⟩; have z0 := (hb2.cell (cell_lt y0)).trans y0; have z1 := (hb2.cell (cell_lt y1)).trans y1; have z2 := (hb2.cell (cell_lt y2)).trans y2; have z3 := (hb2.cell (cell_lt y3)).trans y3; have HO2 := Lib.hid (own_below HO5.out hb2); have HBW2 := Lib.hid (HB5.out.trans (hb2.mono hs5)))
      | (refine step_app1 [.string (Sn ++ Sg ++ Qv)] Rep.elStr rfl _ _ rfl HO2.out HBW2.out (Nat.le_refl _) HBW2.out.size rfl rfl rfl (by intro x hx; simp at hx; subst hx; rfl) (by omega) (by omega) ?_; intro g cap w3 hown3 hbel3 hgr3; have r0 := hgr3.cell z0 HNG.out; have r1 := hgr3.cell z1 HNG.out; have r2 := hgr3.cell z2 HNG.out; have r3 := hgr3.cell z3 HN0.out; have HO3 := Lib.hid hown3; have HB3 := Lib.hid hbel3))
    all_goals
      have HO4 : Hid (w3.ownsRow w.heap.size 9 1 (.slice (some ⟨g, 0, none⟩) (k + 1) cap) (k + 1) ((M.take (k + 1)).map mtS)) := Lib.hid (by rw [HNX.out]; exact HO3.out)
      go_wp2_with fail
      go_roundw
      case rel => exact ⟨k + 1, by omega, by go_num, HO4, HB3⟩
      case measure => simp [intOf]; omega
end Go.Proofs.YtjmplhkdohlbcaaGreatDoor.Lab
/-
  Matches: the walk of MatchesText (PRINTED by mklb8.py).
-/
namespace Go.Proofs.YtjmplhkdohlbcaaGreatDoor.Lab
open Go.RowKit Go.Gh
set_option linter.unusedVariables false
set_option linter.unusedSimpArgs false
theorem commas_snoc : ∀ (l : List By) (x : By), commas (l ++ [x]) = if l = [] then x else commas l ++ 44 :: x
  | [], x => rfl
  | [y], x => rfl
  | y :: z :: r, x => by
    have ih := commas_snoc (z :: r) x
    rw [if_neg (by simp)] at ih ⊢
    show y ++ 44 :: commas ((z :: r) ++ [x]) = y ++ 44 :: commas (z :: r) ++ 44 :: x
    rw [ih, List.append_assoc]
    rfl
theorem pre_next {M : List Mt} {k : Nat} {x : Mt} (hx : M[k]? = some x) : commas ((M.take (k + 1)).map mtx) = if k = 0 then mtx x else commas ((M.take k).map mtx) ++ 44 :: mtx x := by
  rw [List.take_add_one, hx, List.map_append]
  show commas ((M.take k).map mtx ++ [mtx x]) = _
  rw [commas_snoc]
  have hl := (List.getElem?_eq_some_iff.1 hx).1
  by_cases h0 : k = 0
  · subst h0
    rw [List.take_zero]
    rfl
  · have : (M.take k).map mtx ≠ [] := by
      intro e
      have := congrArg List.length e
      rw [List.length_map, List.length_take, List.length_nil] at this
      omega
    rw [if_neg h0, if_neg this]
/-- The condition on the world may grow on the way. -/
theorem wpAnyH_more {P : Program} {ops : Array Oper} {Q : Exit → Act → World → Prop} {md : Region.Mode} {S S' : World → Prop} (hs : ∀ w, S' w → S w) : ∀ (fuel : Nat) (listed : Array Bool) (a : Act) (w : World), wpAnyH P md ops Q S' fuel listed a w → wpAnyH P md ops Q S fuel listed a w
  | 0, _, _, _, h => h
  | fuel + 1, _, _, _, h => ⟨h.1, fun i hi => wpOp_mono (fun a' w' h' => ⟨hs _ h'.1, wpAnyH_more hs fuel _ a' w' h'.2⟩) (h.2 i hi)⟩
set_option maxHeartbeats 8000000 in
set_option maxRecDepth 100000 in
theorem mtext_any (v : Value) (M : List Mt) (w : World) (hs : Sp MtR 3 w v M) (h0 : matchF M = 0) : Calls Tryz.prog 23 #[v] w fun e w' => e = .returned (.string (mkS (textM M))) ∧ Below w.heap.size w w' := by
  obtain ⟨n, hn⟩ : ∃ n, M.length = n := ⟨_, rfl⟩
  obtain ⟨ao, c, rfl, hnc, hc⟩ := hs.shapeN hn
  have HN := Lib.hid hn
  have hn10 : n ≤ 10 := by have := (matchF_zero h0).1; omega
  have HOK := Lib.hid (fun m (hm : m ∈ M) => ok_mem h0 hm)
  have HS := Lib.hid hs
  obtain ⟨R, hR⟩ : ∃ R, mkS (textM M) = R := ⟨_, rfl⟩
  rw [hR]
  have HR := Lib.hid hR
  clear hn h0 hs hR
  go_enter Tryz.func23, Tryz.ntmps23
  go_wp2_with fail
  go_loopw [3, 8] (fun o i wr => ∃ (k : Nat) (O : ByteArray), k ≤ n ∧ i = .int .i64 k ∧ o = .string O ∧ Hid (O = mkS (123 :: commas ((M.take k).map mtx))) ∧ O.size ≤ 1 + 105 * k ∧ Hid (Below w.heap.size w wr)) (fun _ i _ => n - (intOf i).toNat)
  case atStart => exact ⟨0, _, Nat.zero_le _, rfl, rfl, Lib.hid rfl, by decide, Lib.hid (Below.refl _ _)⟩
  case round =>
    obtain ⟨k, O, hk, rfl, rfl, HO, hos, HB⟩ := hrel
    by_cases hlt : k < n
    case neg =>
      obtain rfl : k = n := by omega
      have hs1 : O.size + 1 ≤ 9223372036854775807 := by omega
      have HE : Hid (O ++ ⟨#[125]⟩ = R) := Lib.hid (by
        rw [← HR.out, HO.out, List.take_of_length_le (Nat.le_of_eq HN.out)]
        exact mkS_app _ [125])
      go_wp2_with fail
      go_ret
      exact ⟨by rw [← HE.out]; rfl, HB.out⟩
    obtain ⟨x, hx⟩ : ∃ x, M[k]? = some x := ⟨_, List.getElem?_eq_getElem (by rw [HN.out]; exact hlt)⟩
    obtain ⟨o1, o2, o3, o4⟩ := HOK.out x (List.mem_of_getElem? hx)
    obtain ⟨b, off, cs, rfl, ⟨rfl, hb1, hb2, hk1, hk2⟩, _, hck⟩ := (HS.out.below mtR_mono HB.out).get hx
    have c0 := hck 0 _ rfl
    have c1 := hck 1 _ rfl
    have c2 := hck 2 _ rfl
    rw [Nat.add_zero] at c0
    have HPN := Lib.hid (pre_next hx)
    obtain ⟨Sn, hSn⟩ : ∃ S, S = mkS x.nm := ⟨_, rfl⟩
    obtain ⟨V, hV⟩ : ∃ S, S = mkS x.vl := ⟨_, rfl⟩
    obtain ⟨Qv, hQv⟩ : ∃ S, S = mkS (quo x.vl) := ⟨_, rfl⟩
    have hsz1 : Sn.size ≤ 20 := by rw [hSn, mkS_size]; exact o3
    have hsz3 : Qv.size ≤ 82 := by
      rw [hQv, mkS_size]
      unfold quo
      have := esc_le x.vl
      simp only [List.length_cons, List.length_append, List.length_nil]
      omega
    have HMX : Hid (Sn ++ mkS (sgn x.kd) ++ Qv = mkS (mtx x)) := Lib.hid (by
      rw [hSn, hQv, mkS_app, mkS_app]
      unfold mtx
      rw [List.append_assoc])
    have HQ := Lib.hid (fun W => inquotes_any x.vl W (by omega))
    rw [← hV] at c2
    rw [← hSn] at c1
    rw [← hV, ← hQv] at HQ
    obtain ⟨G, hG⟩ : ∃ G, G = wr.heap.size := ⟨_, rfl⟩
    obtain ⟨P, hP⟩ : ∃ P : ByteArray, P = if k = 0 then O else O ++ ⟨#[44]⟩ := ⟨_, rfl⟩
    have hPs : P.size ≤ 2 + 105 * k := by
      rw [hP]
      split
      · omega
      · rw [ByteArray.size_append]
        show O.size + 1 ≤ _
        omega
    have HPX : Hid (P ++ mkS (mtx x) = mkS (123 :: commas ((M.take (k + 1)).map mtx))) := Lib.hid (by
      rw [hP, HPN.out]
      by_cases hk0 : k = 0
      · subst hk0
        rw [if_pos rfl, if_pos rfl, HO.out, mkS_app]
        rfl
      · rw [if_neg hk0, if_neg hk0, HO.out]
        show mkS _ ++ mkS [44] ++ mkS _ = _
        rw [mkS_app, mkS_app]
        simp [List.append_assoc])
    obtain ⟨K, hK⟩ : ∃ K, x.kd = K := ⟨_, rfl⟩
    rw [hK] at c0 o1 o2 HMX
    clear hSn hV hQv hck hx hk1 hk2 hb1 hb2 hK o3 o4
    have hos1 : O.size + 1 ≤ 9223372036854775807 := by omega
    go_upto_if 14 with (fail)
    obtain ⟨W5, hW5⟩ : ∃ W5, W5 = wr.alloc (Obj.cells #[.int .i64 K, .string Sn, .string V] 73) := ⟨_, rfl⟩
    rw [← hW5, ← hG]
    have hbox : W5.heap[G]? = some (.cells #[.int .i64 K, .string Sn, .string V] 73 (0, 0)) := by rw [hW5, hG]; exact heap_alloc_new wr _
    have hbw : Below wr.heap.size wr W5 := by rw [hW5]; exact (Below.refl _ _).alloc (Nat.le_refl _) _
    have HB5 : Hid (Below w.heap.size w W5) := Lib.hid (HB.out.trans (hbw.mono HB.out.size))
    have y0 : W5.drew.cell? ⟨G, 0, none⟩ = some (.int .i64 K) := (row_cell 0 _ hbox rfl).1
    have y1 : W5.drew.cell? ⟨G, 1, none⟩ = some (.string Sn) := (row_cell 1 _ hbox rfl).1
    have y2 : W5.drew.cell? ⟨G, 2, none⟩ = some (.string V) := (row_cell 2 _ hbox rfl).1
    have HP := Lib.hid hP
    clear hW5 hG hbox hbw c0 c1 c2 HPN hP
    go_cut [3] (fun o wx => o = .string P ∧ wx = W5)
    case first =>
      by_cases hk0 : k = 0
      · have HP0 : Hid (P = O) := Lib.hid (by rw [HP.out, if_pos hk0])
        subst hk0
        go_wp2_with fail
        go_meet
        case rel => exact ⟨by rw [HP0.out], rfl⟩
      · have HP0 : Hid (P = O ++ ⟨#[44]⟩) := Lib.hid (by rw [HP.out, if_neg hk0])
        have hki : (0 : Int) < (k : Int) := by omega
        go_wp2_with fail
        go_meet
        case rel => exact ⟨by rw [HP0.out], rfl⟩
    case rest =>
    obtain ⟨rfl, rfl⟩ := hcut
    obtain ⟨κ, hκ⟩ : ∃ κ : Nat, K = (κ : Int) := ⟨K.toNat, by omega⟩
    subst hκ
    have hκi : (κ : Int) < 5 := by omega
    obtain ⟨Sg, hSg⟩ : ∃ S, S = mkS (sgn κ) := ⟨_, rfl⟩
    have hsz2 : Sg.size ≤ 2 := by rw [hSg, mkS_size]; exact sgn_le _
    rw [← hSg] at HMX
    have HE2 : Hid (P ++ (Sn ++ Sg ++ Qv) = mkS (123 :: commas ((M.take (k + 1)).map mtx))) := Lib.hid (by
      rw [← HPX.out, ← HMX.out])
    have hs1 : (9223372036854775807 < Sn.size + Sg.size) = False := eq_false (by omega)
    have hs2 : (9223372036854775807 < Sn.size + Sg.size + Qv.size) = False := eq_false (by omega)
    have hs3 : (9223372036854775807 < P.size + (Sn.size + Sg.size + Qv.size)) = False := eq_false (by omega)
    have hos2 : (P ++ (Sn ++ Sg ++ Qv) : ByteArray).size ≤ 1 + 105 * (k + 1) := by
      rw [ByteArray.size_append, ByteArray.size_append, ByteArray.size_append]
      omega
    have HOS := Lib.hid hos2
    have HSG := Lib.hid hSg
    have hx4 : κ = 1 ∨ κ = 2 ∨ κ = 3 ∨ κ = 4 := by omega
    have HX4 := Lib.hid hx4
    clear hos2 hSg hx4
    go_upto_region 7 with (fail)
    clear HPX HMX
    have x0 : wc.drew.cell? ⟨G, 0, none⟩ = some (.int .i64 κ) := y0
    have x1 : wc.drew.cell? ⟨G, 1, none⟩ = some (.string Sn) := y1
    have x2 : wc.drew.cell? ⟨G, 2, none⟩ = some (.string V) := y2
    obtain ⟨W6, hW6⟩ : ∃ W6, W6 = (wc.alloc (Obj.cells #[.string ⟨#[]⟩, .string ⟨#[61]⟩, .string ⟨#[33, 61]⟩, .string ⟨#[61, 94]⟩, .string ⟨#[61, 126]⟩] 9)).drew := ⟨_, rfl⟩
    have hb6 : Below wc.heap.size wc W6 := by rw [hW6]; exact ((Below.refl _ _).alloc (Nat.le_refl _) _).drew
    have hl : G < wc.heap.size := cell_lt y0
    have z0 : W6.cell? ⟨G, 0, none⟩ = some (.int .i64 κ) := (hb6.cell (p := ⟨G, 0, none⟩) hl).trans y0
    have z1 : W6.cell? ⟨G, 1, none⟩ = some (.string Sn) := (hb6.cell (p := ⟨G, 1, none⟩) hl).trans y1
    have z2 : W6.cell? ⟨G, 2, none⟩ = some (.string V) := (hb6.cell (p := ⟨G, 2, none⟩) hl).trans y2
    obtain ⟨Nw, hNw⟩ : ∃ Nw, Nw = wc.heap.size := ⟨_, rfl⟩
    have z3 : W6.cell? ⟨Nw, κ, none⟩ = some (.string Sg) := by
      rw [hW6, hNw, HSG.out]
      refine (row_cell κ _ (heap_alloc_new wc _) ?_).1
      rcases HX4.out with rfl | rfl | rfl | rfl <;> rfl
    have HB6 := Lib.hid hb6
    have HW6 := Lib.hid hW6
    have HNW := Lib.hid hNw
    clear hb6 hl hW6 hNw
    refine wp_region_noPanic ?_
    refine wp_region_held_drew (S := fun w' => w'.cell? ⟨G, 0, none⟩ = some (.int .i64 κ) ∧ w'.cell? ⟨G, 1, none⟩ = some (.string Sn) ∧ w'.cell? ⟨G, 2, none⟩ = some (.string V)) (by kernel_rfl) ⟨x0, x1, x2⟩ (fun hHeld => ?_)
    refine wpAnyH_take (i := 0) (v := ?v0) rfl (by kernel_rfl) (by kernel_rfl) (by kernel_rfl) (fun _ _ _ h => h) (Or.inl ⟨by rfl, ?hy0⟩) hHeld ?rest0
    case hy0 => (intro w hSw; (try dsimp only at hSw); go_simp; (try with_reducible rfl))
    case rest0 =>
    try simp only [Act.put, List.setIfInBounds_toArray, List.set_cons_zero, List.set_cons_succ, List.getElem_toArray, List.getElem_cons_succ, List.getElem_cons_zero]
    refine wpAnyH_take (i := 1) (v := ?v1) rfl (by kernel_rfl) (by kernel_rfl) (by kernel_rfl) (fun _ _ _ h => h) (Or.inl ⟨by rfl, ?hy1⟩) hHeld ?rest1
    case hy1 => (intro w hSw; (try dsimp only at hSw); go_simp; (try with_reducible rfl))
    case rest1 =>
    try simp only [Act.put, List.setIfInBounds_toArray, List.set_cons_zero, List.set_cons_succ, List.getElem_toArray, List.getElem_cons_succ, List.getElem_cons_zero]
    refine wpAnyH_take (i := 2) (v := ?v2) rfl (by kernel_rfl) (by kernel_rfl) (by kernel_rfl) (fun _ _ _ h => h) (Or.inl ⟨by rfl, ?hy2⟩) hHeld ?rest2
    case hy2 => (intro w hSw; (try dsimp only at hSw); go_simp; (try with_reducible rfl))
    case rest2 =>
    try simp only [Act.put, List.setIfInBounds_toArray, List.set_cons_zero, List.set_cons_succ, List.getElem_toArray, List.getElem_cons_succ, List.getElem_cons_zero]
    refine wpAnyH_take (i := 4) (v := ?v4) rfl (by kernel_rfl) (by kernel_rfl) (by kernel_rfl) (fun _ _ _ h => h) (Or.inl ⟨by rfl, ?hy4⟩) hHeld ?rest4
    case hy4 => (intro w hSw; (try dsimp only at hSw); go_simp; (try with_reducible rfl))
    case rest4 =>
    try simp only [Act.put, List.setIfInBounds_toArray, List.set_cons_zero, List.set_cons_succ, List.getElem_toArray, List.getElem_cons_succ, List.getElem_cons_zero]
    refine wpAnyH_take (i := 5) (v := ?v5) rfl (by kernel_rfl) (by kernel_rfl) (by kernel_rfl) (fun _ _ _ h => h) (Or.inl ⟨by rfl, ?hy5⟩) hHeld ?rest5
    case hy5 => (intro w hSw; (try dsimp only at hSw); go_simp; (try with_reducible rfl))
    case rest5 =>
    try simp only [Act.put, List.setIfInBounds_toArray, List.set_cons_zero, List.set_cons_succ, List.getElem_toArray, List.getElem_cons_succ, List.getElem_cons_zero]
    refine wpAnyH_take (i := 9) (v := ?v9) rfl (by kernel_rfl) (by kernel_rfl) (by kernel_rfl) (fun _ _ _ h => h) (Or.inl ⟨by rfl, ?hy9⟩) hHeld ?rest9
    case hy9 => (intro w hSw; (try dsimp only at hSw); go_simp; (try with_reducible rfl))
    case rest9 =>
    try simp only [Act.put, List.setIfInBounds_toArray, List.set_cons_zero, List.set_cons_succ, List.getElem_toArray, List.getElem_cons_succ, List.getElem_cons_zero]
    refine wpAnyH_take (i := 10) (v := ?v10) rfl (by kernel_rfl) (by kernel_rfl) (by kernel_rfl) (fun _ _ _ h => h) (Or.inl ⟨by rfl, ?hy10⟩) hHeld ?rest10
    case hy10 => (intro w hSw; (try dsimp only at hSw); go_simp; (try with_reducible rfl))
    case rest10 =>
    try simp only [Act.put, List.setIfInBounds_toArray, List.set_cons_zero, List.set_cons_succ, List.getElem_toArray, List.getElem_cons_succ, List.getElem_cons_zero]
    refine wpAnyH_ready (rs := [3, 11]) (by kernel_rfl) (by simp) ?_
    refine AllReadyH.cons rfl (fun K hK => ?_) ?_
    · go_simp
      rw [← HW6.out, ← HNW.out]
      refine hK.out _ _ ⟨z0, z1, z2⟩ (fun hHeld => ?_)
      clear hK K
      try simp only [Act.put, List.setIfInBounds_toArray, List.set_cons_zero, List.set_cons_succ, List.getElem_toArray, List.getElem_cons_succ, List.getElem_cons_zero]
      refine wpAnyH_more (S' := fun w' => w'.cell? ⟨G, 0, none⟩ = some (.int .i64 κ) ∧ w'.cell? ⟨G, 1, none⟩ = some (.string Sn) ∧ w'.cell? ⟨G, 2, none⟩ = some (.string V) ∧ w'.cell? ⟨Nw, κ, none⟩ = some (.string Sg)) (fun w h => ⟨h.1, h.2.1, h.2.2.1⟩) _ _ _ _ ?_
      have hHeld1 : W6.cell? ⟨G, 0, none⟩ = some (.int .i64 κ) ∧ W6.cell? ⟨G, 1, none⟩ = some (.string Sn) ∧ W6.cell? ⟨G, 2, none⟩ = some (.string V) ∧ W6.cell? ⟨Nw, κ, none⟩ = some (.string Sg) := ⟨z0, z1, z2, z3⟩
      refine wpAnyH_take (i := 6) (v := ?v6) rfl (by kernel_rfl) (by kernel_rfl) (by kernel_rfl) (fun _ _ _ h => h) (Or.inl ⟨by rfl, ?hy6⟩) hHeld1 ?rest6
      case hy6 => (intro w hSw; (try dsimp only at hSw); go_simp; (try with_reducible rfl))
      case rest6 =>
      try simp only [Act.put, List.setIfInBounds_toArray, List.set_cons_zero, List.set_cons_succ, List.getElem_toArray, List.getElem_cons_succ, List.getElem_cons_zero]
      refine wpAnyH_take (i := 7) (v := ?v7) rfl (by kernel_rfl) (by kernel_rfl) (by kernel_rfl) (fun _ _ _ h => h) (Or.inl ⟨by rfl, ?hy7⟩) hHeld1 ?rest7
      case hy7 => (intro w hSw; (try dsimp only at hSw); go_simp; (try with_reducible rfl))
      case rest7 =>
      try simp only [Act.put, List.setIfInBounds_toArray, List.set_cons_zero, List.set_cons_succ, List.getElem_toArray, List.getElem_cons_succ, List.getElem_cons_zero]
      refine wpAnyH_take (i := 8) (v := ?v8) rfl (by kernel_rfl) (by kernel_rfl) (by kernel_rfl) (fun _ _ _ h => h) (Or.inl ⟨by rfl, ?hy8⟩) hHeld1 ?rest8
      case hy8 => (intro w hSw; (try dsimp only at hSw); go_simp; (try with_reducible rfl))
      case rest8 =>
      try simp only [Act.put, List.setIfInBounds_toArray, List.set_cons_zero, List.set_cons_succ, List.getElem_toArray, List.getElem_cons_succ, List.getElem_cons_zero]
      refine wpAnyH_ready (rs := [11]) (by kernel_rfl) (by simp) ?_
      refine AllReadyH.cons rfl (fun K hK => ?_) ?_
      · go_simp
        refine (HQ.out _).mono ?_
        rintro e w2 ⟨rfl, hw2⟩
        have hw2 := hw2.symm
        subst hw2
        refine hK.out _ _ hHeld1 (fun hHeld2 => ?_)
        clear hK K
        try simp only [Act.put, List.setIfInBounds_toArray, List.set_cons_zero, List.set_cons_succ, List.getElem_toArray, List.getElem_cons_succ, List.getElem_cons_zero]
        refine wpAnyH_take (i := 12) (v := ?v12) rfl (by kernel_rfl) (by kernel_rfl) (by kernel_rfl) (fun _ _ _ h => h) (Or.inl ⟨by rfl, ?hy12⟩) hHeld1 ?rest12
        case hy12 => (intro w hSw; (try dsimp only at hSw); go_simp; (try with_reducible rfl))
        case rest12 =>
        try simp only [Act.put, List.setIfInBounds_toArray, List.set_cons_zero, List.set_cons_succ, List.getElem_toArray, List.getElem_cons_succ, List.getElem_cons_zero]
        refine wpAnyH_take (i := 13) (v := ?v13) rfl (by kernel_rfl) (by kernel_rfl) (by kernel_rfl) (fun _ _ _ h => h) (Or.inl ⟨by rfl, ?hy13⟩) hHeld1 ?rest13
        case hy13 => (intro w hSw; (try dsimp only at hSw); go_simp; (try with_reducible rfl))
        case rest13 =>
        try simp only [Act.put, List.setIfInBounds_toArray, List.set_cons_zero, List.set_cons_succ, List.getElem_toArray, List.getElem_cons_succ, List.getElem_cons_zero]
        refine wpAnyH_take (i := 14) (v := ?v14) rfl (by kernel_rfl) (by kernel_rfl) (by kernel_rfl) (fun _ _ _ h => h) (Or.inl ⟨by rfl, ?hy14⟩) hHeld1 ?rest14
        case hy14 => (intro w hSw; (try dsimp only at hSw); go_simp; (try with_reducible rfl))
        case rest14 =>
        try simp only [Act.put, List.setIfInBounds_toArray, List.set_cons_zero, List.set_cons_succ, List.getElem_toArray, List.getElem_cons_succ, List.getElem_cons_zero]
        refine wpAnyH_done (by kernel_rfl) ?_ _
        refine NoPanic.normal ?_
        have HBZ : Hid (Below w.heap.size w W6) := Lib.hid (HB5.out.trans (HB6.out.mono HB5.out.size))
        clear z0 z1 z2 z3 x0 x1 x2 y0 y1 y2 hHeld hHeld1
        go_wp2_with fail
        go_roundw
        case rel => exact ⟨k + 1, _, by omega, by go_num, rfl, HE2, HOS.out, HBZ⟩
        case measure => simp [intOf]; omega
      · exact AllReadyH.nil
    refine AllReadyH.cons rfl (fun K hK => ?_) ?_
    · go_simp
      refine (HQ.out _).mono ?_
      rintro e w2 ⟨rfl, hw2⟩
      have hw2 := hw2.symm
      subst hw2
      refine hK.out _ _ hHeld (fun hHeld2 => ?_)
      clear hK K
      try simp only [Act.put, List.setIfInBounds_toArray, List.set_cons_zero, List.set_cons_succ, List.getElem_toArray, List.getElem_cons_succ, List.getElem_cons_zero]
      refine wpAnyH_ready (rs := [3]) (by kernel_rfl) (by simp) ?_
      refine AllReadyH.cons rfl (fun K hK => ?_) ?_
      · go_simp
        rw [← HW6.out, ← HNW.out]
        refine hK.out _ _ ⟨z0, z1, z2⟩ (fun hHeld => ?_)
        clear hK K
        try simp only [Act.put, List.setIfInBounds_toArray, List.set_cons_zero, List.set_cons_succ, List.getElem_toArray, List.getElem_cons_succ, List.getElem_cons_zero]
        refine wpAnyH_more (S' := fun w' => w'.cell? ⟨G, 0, none⟩ = some (.int .i64 κ) ∧ w'.cell? ⟨G, 1, none⟩ = some (.string Sn) ∧ w'.cell? ⟨G, 2, none⟩ = some (.string V) ∧ w'.cell? ⟨Nw, κ, none⟩ = some (.string Sg)) (fun w h => ⟨h.1, h.2.1, h.2.2.1⟩) _ _ _ _ ?_
        have hHeld1 : W6.cell? ⟨G, 0, none⟩ = some (.int .i64 κ) ∧ W6.cell? ⟨G, 1, none⟩ = some (.string Sn) ∧ W6.cell? ⟨G, 2, none⟩ = some (.string V) ∧ W6.cell? ⟨Nw, κ, none⟩ = some (.string Sg) := ⟨z0, z1, z2, z3⟩
        refine wpAnyH_take (i := 6) (v := ?v6) rfl (by kernel_rfl) (by kernel_rfl) (by kernel_rfl) (fun _ _ _ h => h) (Or.inl ⟨by rfl, ?hy6⟩) hHeld1 ?rest6
        case hy6 => (intro w hSw; (try dsimp only at hSw); go_simp; (try with_reducible rfl))
        case rest6 =>
        try simp only [Act.put, List.setIfInBounds_toArray, List.set_cons_zero, List.set_cons_succ, List.getElem_toArray, List.getElem_cons_succ, List.getElem_cons_zero]
        refine wpAnyH_take (i := 7) (v := ?v7) rfl (by kernel_rfl) (by kernel_rfl) (by kernel_rfl) (fun _ _ _ h => h) (Or.inl ⟨by rfl, ?hy7⟩) hHeld1 ?rest7
        case hy7 => (intro w hSw; (try dsimp only at hSw); go_simp; (try with_reducible rfl))
        case rest7 =>
        try simp only [Act.put, List.setIfInBounds_toArray, List.set_cons_zero, List.set_cons_succ, List.getElem_toArray, List.getElem_cons_succ, List.getElem_cons_zero]
        refine wpAnyH_take (i := 8) (v := ?v8) rfl (by kernel_rfl) (by kernel_rfl) (by kernel_rfl) (fun _ _ _ h => h) (Or.inl ⟨by rfl, ?hy8⟩) hHeld1 ?rest8
        case hy8 => (intro w hSw; (try dsimp only at hSw); go_simp; (try with_reducible rfl))
        case rest8 =>
        try simp only [Act.put, List.setIfInBounds_toArray, List.set_cons_zero, List.set_cons_succ, List.getElem_toArray, List.getElem_cons_succ, List.getElem_cons_zero]
        refine wpAnyH_take (i := 12) (v := ?v12) rfl (by kernel_rfl) (by kernel_rfl) (by kernel_rfl) (fun _ _ _ h => h) (Or.inl ⟨by rfl, ?hy12⟩) hHeld1 ?rest12
        case hy12 => (intro w hSw; (try dsimp only at hSw); go_simp; (try with_reducible rfl))
        case rest12 =>
        try simp only [Act.put, List.setIfInBounds_toArray, List.set_cons_zero, List.set_cons_succ, List.getElem_toArray, List.getElem_cons_succ, List.getElem_cons_zero]
        refine wpAnyH_take (i := 13) (v := ?v13) rfl (by kernel_rfl) (by kernel_rfl) (by kernel_rfl) (fun _ _ _ h => h) (Or.inl ⟨by rfl, ?hy13⟩) hHeld1 ?rest13
        case hy13 => (intro w hSw; (try dsimp only at hSw); go_simp; (try with_reducible rfl))
        case rest13 =>
        try simp only [Act.put, List.setIfInBounds_toArray, List.set_cons_zero, List.set_cons_succ, List.getElem_toArray, List.getElem_cons_succ, List.getElem_cons_zero]
        refine wpAnyH_take (i := 14) (v := ?v14) rfl (by kernel_rfl) (by kernel_rfl) (by kernel_rfl) (fun _ _ _ h => h) (Or.inl ⟨by rfl, ?hy14⟩) hHeld1 ?rest14
        case hy14 => (intro w hSw; (try dsimp only at hSw); go_simp; (try with_reducible rfl))
        case rest14 =>
        try simp only [Act.put, List.setIfInBounds_toArray, List.set_cons_zero, List.set_cons_succ, List.getElem_toArray, List.getElem_cons_succ, List.getElem_cons_zero]
        refine wpAnyH_done (by kernel_rfl) ?_ _
        refine NoPanic.normal ?_
        have HBZ : Hid (Below w.heap.size w W6) := Lib.hid (HB5.out.trans (HB6.out.mono HB5.out.size))
        clear z0 z1 z2 z3 x0 x1 x2 y0 y1 y2 hHeld hHeld1
        go_wp2_with fail
        go_roundw
        case rel => exact ⟨k + 1, _, by omega, by go_num, rfl, HE2, HOS.out, HBZ⟩
        case measure => simp [intOf]; omega
      · exact AllReadyH.nil
    exact AllReadyH.nil
end Go.Proofs.YtjmplhkdohlbcaaGreatDoor.Lab
/-
  Labels: the walks of matches, AsMatches, Text, MatchText, LabelsText (PRINTED by mklb9.py).
-/
namespace Go.Proofs.YtjmplhkdohlbcaaGreatDoor.Lab
open Go.RowKit Go.Gh
set_option linter.unusedVariables false
set_option linter.unusedSimpArgs false
theorem infoMt : (Tryz.prog.info? 73).map (fun i => (i.zero, i.size, i.bytes)) = some (some (.agg #[.int .i64 0, .string ⟨#[]⟩, .string ⟨#[]⟩]), 3, 40) := by kernel_rfl
theorem elMt : Elem Tryz.prog 34 73 3 40 := elem_of Tryz.underlying34 infoMt rfl (by decide)
theorem infoLb : (Tryz.prog.info? 75).map (fun i => (i.zero, i.size, i.bytes)) = some (some (.agg #[.string ⟨#[]⟩, .string ⟨#[]⟩]), 2, 32) := by kernel_rfl
theorem elLb : Elem Tryz.prog 22 75 2 32 := elem_of Tryz.underlying22 infoLb rfl (by decide)
theorem mtR_grow (T : TypeId) (k B : Nat) : Grow MtR T k B := fun w w' a c u m us h _ _ => h
theorem lbR_grow (T : TypeId) (k B : Nat) : Grow LbR T k B := fun w w' a c u m us h _ _ => h
theorem asM_take {L : List Lb} {k : Nat} {x : Lb} (h : L[k]? = some x) : asM (L.take (k + 1)) = asM (L.take k) ++ [⟨1, x.nm, x.vl⟩] := by
  unfold asM
  rw [List.take_add_one, h, List.map_append]
  rfl
theorem asM_len (L : List Lb) : (asM L).length = L.length := by unfold asM; rw [List.length_map]
theorem labelF_len {l : List Lb} (h : labelF l = 0) : l.length ≤ 10 := by
  have := (matchF_zero (labelF_match h)).1
  rwa [asM_len] at this
set_option maxHeartbeats 4000000 in
set_option maxRecDepth 100000 in
theorem matches_any (v : Value) (L : List Lb) (w : World) (hs : Sp LbR 2 w v L) (h0 : L.length ≤ 10) : Calls Tryz.prog 37 #[v] w fun e w' => ∃ v', e = .returned v' ∧ Ow MtR 3 73 w.heap.size w' v' (asM L) ∧ Below w.heap.size w w' := by
  obtain ⟨n, hn⟩ : ∃ n, L.length = n := ⟨_, rfl⟩
  obtain ⟨ao, c, rfl, hnc, hc⟩ := hs.shapeN hn
  have HN := Lib.hid hn
  have hn10 : n ≤ 10 := by omega
  have HS := Lib.hid hs
  clear hn hs h0
  go_enter Tryz.func37, Tryz.ntmps37
  go_wp2_with fail
  go_loopw [3, 8] (fun u i wr => ∃ (k : Nat), k ≤ n ∧ i = .int .i64 k ∧ Hid (Ow MtR 3 73 w.heap.size wr u (asM (L.take k))) ∧ Below w.heap.size w wr) (fun _ i _ => n - (intOf i).toNat)
  case atStart => exact ⟨0, Nat.zero_le _, rfl, Lib.hid Ow.nil, Below.refl _ _⟩
  case round =>
    obtain ⟨k, hk, rfl, HO, hbel⟩ := hrel
    have hsz := hbel.size
    by_cases hlt : k < n
    case neg =>
      obtain rfl : k = n := by omega
      have HO2 : Hid (Ow MtR 3 73 w.heap.size wr u3 (asM L)) := Lib.hid (by have := HO.out; rwa [List.take_of_length_le (by rw [HN.out]; exact Nat.le_refl _)] at this)
      go_wp2_with fail
      go_ret
      exact ⟨_, rfl, HO2.out, hbel⟩
    obtain ⟨x, hx⟩ : ∃ x, L[k]? = some x := ⟨_, List.getElem?_eq_getElem (by rw [HN.out]; exact hlt)⟩
    obtain ⟨b, off, cs, rfl, ⟨rfl, hl1, hl2⟩, _, hck⟩ := (HS.out.below lbR_mono hbel).get hx
    have HX := Lib.hid hx
    have c0 := hck 0 _ rfl
    have c1 := hck 1 _ rfl
    rw [Nat.add_zero] at c0
    have HPL : Hid ((asM (L.take k)).length = k) := Lib.hid (by rw [asM_len, List.length_take, HN.out]; omega)
    obtain ⟨uo, uc, rfl, hu1, hu2⟩ := Sp.shapeN HO.out.sp HPL.out
    obtain ⟨P, hP1, hP2, hP3, hP4⟩ := HO.out
    rw [HPL.out] at hP4
    have HPP := Lib.hid (And.intro hP1 (And.intro hP2 hP3))
    have HOW := Lib.hid hP4
    have HMR : Hid (MtR w ⟨1, x.nm, x.vl⟩ [.int .i64 1, .string (mkS x.nm), .string (mkS x.vl)]) := Lib.hid ⟨rfl, hl1, hl2, (by decide : (-9223372036854775808 : Int) ≤ 1), (by decide : (1 : Int) < 9223372036854775808)⟩
    obtain ⟨Sn, hSn⟩ : ∃ S, S = mkS x.nm := ⟨_, rfl⟩
    obtain ⟨V, hV⟩ : ∃ S, S = mkS x.vl := ⟨_, rfl⟩
    rw [← hSn, ← hV] at HMR
    rw [← hSn] at c0
    rw [← hV] at c1
    clear hck hx hP1 hP2 hP3 hP4 hSn hV hl1 hl2
    go_upto_region 5 with (fail)
    obtain ⟨wA, hwA⟩ : ∃ wA, wA = wr.alloc (Obj.cells #[.string Sn, .string V] 75) := ⟨_, rfl⟩
    have hbox : wA.heap[wr.heap.size]? = some (.cells #[.string Sn, .string V] 75 (0, 0)) := by rw [hwA]; exact heap_alloc_new wr _
    have hbA : Below wr.heap.size wr wA := by rw [hwA]; exact (Below.refl _ _).alloc (Nat.le_refl _) _
    rw [← hwA]
    have HBA := Lib.hid (hbel.trans (hbA.mono hsz))
    have hO4 : wA.ownsRow w.heap.size 73 3 (.slice uo k uc) k (pc P) := own_below HOW.out hbA
    obtain ⟨⟨d0, d1⟩, -⟩ := bx2 hbox
    generalize wr.heap.size = bx at *
    clear hwA hbox hbA c0 c1
    go_wp2_with (at_builtin; refine append1 [.int .i64 1, .string Sn, .string V] elMt rfl _ _ rfl hO4 HBA.out HBA.out.size rfl rfl rfl (by intro x hx; simp at hx; rcases hx with rfl | rfl | rfl <;> rfl) ?c4 ?c5 ?_)
    case c4 => omega
    case c5 => omega
    intro v5 w5 hown5 hbel5 hgr5
    have HON : Hid (Ow MtR 3 73 w.heap.size w5 v5 (asM (L.take (k + 1)))) := Lib.hid (by
      rw [asM_take HX.out]
      exact Ow.snoc (w := wA) (mtR_grow _ _ _) HPP.out.1 HPP.out.2.1 (fun q hq => HPP.out.2.2 q hq) hO4 HPL.out.symm hgr5 hown5 rfl HMR.out)
    have HB5 := Lib.hid hbel5
    obtain ⟨vo, vc, rfl, -, -, -⟩ := own_shape hown5
    clear hO4 hown5 hgr5 hbel5 d0 d1
    go_wp2_with fail
    go_roundw
    case rel => exact ⟨k + 1, by omega, by go_num, HON, HB5.out⟩
    case measure => simp [intOf]; omega
set_option maxHeartbeats 4000000 in
set_option maxRecDepth 100000 in
theorem asmatches_any (v : Value) (L : List Lb) (w : World) (hs : Sp LbR 2 w v L) (h0 : L.length ≤ 10) : Calls Tryz.prog 40 #[v] w fun e w' => ∃ v', e = .returned v' ∧ Ow MtR 3 73 w.heap.size w' v' (asM L) ∧ Below w.heap.size w w' := by
  obtain ⟨n, hn⟩ : ∃ n, L.length = n := ⟨_, rfl⟩
  obtain ⟨ao, c, rfl, hnc, hc⟩ := hs.shapeN hn
  have HN := Lib.hid hn
  have hn10 : n ≤ 10 := by omega
  have HS := Lib.hid hs
  clear hn hs h0
  go_enter Tryz.func40, Tryz.ntmps40
  go_wp2_with fail
  go_loopw [3, 8] (fun u i wr => ∃ (k : Nat), k ≤ n ∧ i = .int .i64 k ∧ Hid (Ow MtR 3 73 w.heap.size wr u (asM (L.take k))) ∧ Below w.heap.size w wr) (fun _ i _ => n - (intOf i).toNat)
  case atStart => exact ⟨0, Nat.zero_le _, rfl, Lib.hid Ow.nil, Below.refl _ _⟩
  case round =>
    obtain ⟨k, hk, rfl, HO, hbel⟩ := hrel
    have hsz := hbel.size
    by_cases hlt : k < n
    case neg =>
      obtain rfl : k = n := by omega
      have HO2 : Hid (Ow MtR 3 73 w.heap.size wr u3 (asM L)) := Lib.hid (by have := HO.out; rwa [List.take_of_length_le (by rw [HN.out]; exact Nat.le_refl _)] at this)
      go_wp2_with fail
      go_ret
      exact ⟨_, rfl, HO2.out, hbel⟩
    obtain ⟨x, hx⟩ : ∃ x, L[k]? = some x := ⟨_, List.getElem?_eq_getElem (by rw [HN.out]; exact hlt)⟩
    obtain ⟨b, off, cs, rfl, ⟨rfl, hl1, hl2⟩, _, hck⟩ := (HS.out.below lbR_mono hbel).get hx
    have HX := Lib.hid hx
    have c0 := hck 0 _ rfl
    have c1 := hck 1 _ rfl
    rw [Nat.add_zero] at c0
    have HPL : Hid ((asM (L.take k)).length = k) := Lib.hid (by rw [asM_len, List.length_take, HN.out]; omega)
    obtain ⟨uo, uc, rfl, hu1, hu2⟩ := Sp.shapeN HO.out.sp HPL.out
    obtain ⟨P, hP1, hP2, hP3, hP4⟩ := HO.out
    rw [HPL.out] at hP4
    have HPP := Lib.hid (And.intro hP1 (And.intro hP2 hP3))
    have HOW := Lib.hid hP4
    have HMR : Hid (MtR w ⟨1, x.nm, x.vl⟩ [.int .i64 1, .string (mkS x.nm), .string (mkS x.vl)]) := Lib.hid ⟨rfl, hl1, hl2, (by decide : (-9223372036854775808 : Int) ≤ 1), (by decide : (1 : Int) < 9223372036854775808)⟩
    obtain ⟨Sn, hSn⟩ : ∃ S, S = mkS x.nm := ⟨_, rfl⟩
    obtain ⟨V, hV⟩ : ∃ S, S = mkS x.vl := ⟨_, rfl⟩
    rw [← hSn, ← hV] at HMR
    rw [← hSn] at c0
    rw [← hV] at c1
    clear hck hx hP1 hP2 hP3 hP4 hSn hV hl1 hl2
    go_upto_region 5 with (fail)
    obtain ⟨wA, hwA⟩ : ∃ wA, wA = wr.alloc (Obj.cells #[.string Sn, .string V] 75) := ⟨_, rfl⟩
    have hbox : wA.heap[wr.heap.size]? = some (.cells #[.string Sn, .string V] 75 (0, 0)) := by rw [hwA]; exact heap_alloc_new wr _
    have hbA : Below wr.heap.size wr wA := by rw [hwA]; exact (Below.refl _ _).alloc (Nat.le_refl _) _
    rw [← hwA]
    have HBA := Lib.hid (hbel.trans (hbA.mono hsz))
    have hO4 : wA.ownsRow w.heap.size 73 3 (.slice uo k uc) k (pc P) := own_below HOW.out hbA
    obtain ⟨⟨d0, d1⟩, -⟩ := bx2 hbox
    generalize wr.heap.size = bx at *
    clear hwA hbox hbA c0 c1
    go_wp2_with (at_builtin; refine append1 [.int .i64 1, .string Sn, .string V] elMt rfl _ _ rfl hO4 HBA.out HBA.out.size rfl rfl rfl (by intro x hx; simp at hx; rcases hx with rfl | rfl | rfl <;> rfl) ?c4 ?c5 ?_)
    case c4 => omega
    case c5 => omega
    intro v5 w5 hown5 hbel5 hgr5
    have HON : Hid (Ow MtR 3 73 w.heap.size w5 v5 (asM (L.take (k + 1)))) := Lib.hid (by
      rw [asM_take HX.out]
      exact Ow.snoc (w := wA) (mtR_grow _ _ _) HPP.out.1 HPP.out.2.1 (fun q hq => HPP.out.2.2 q hq) hO4 HPL.out.symm hgr5 hown5 rfl HMR.out)
    have HB5 := Lib.hid hbel5
    obtain ⟨vo, vc, rfl, -, -, -⟩ := own_shape hown5
    clear hO4 hown5 hgr5 hbel5 d0 d1
    go_wp2_with fail
    go_roundw
    case rel => exact ⟨k + 1, by omega, by go_num, HON, HB5.out⟩
    case measure => simp [intOf]; omega
/-- The text, or the fault. -/
def txP (w : World) (F : Int) (t : By) (e : Ending) (w' : World) : Prop := e = .returned (.tuple #[.string (mkS (if F = 0 then t else [])), .int .i64 F]) ∧ Below w.heap.size w w'
set_option maxHeartbeats 4000000 in
set_option maxRecDepth 100000 in
theorem text2_any (v : Value) (L : List Lb) (w : World) (hs : Sp LbR 2 w v L) (hT : STab w) : Calls Tryz.prog 8 #[v] w (txP w (labelF L) (textM (asM L))) := by
  obtain ⟨n, hn⟩ : ∃ n, L.length = n := ⟨_, rfl⟩
  obtain ⟨ao, c, rfl, hnc, hc⟩ := hs.shapeN hn
  have HS := Lib.hid hs
  have HC := Lib.hid (lbcheck_any _ L w hs)
  obtain ⟨E, hE⟩ : ∃ E, labelF L = E := ⟨_, rfl⟩
  rw [hE] at HC ⊢
  have HE := Lib.hid hE
  have HT := Lib.hid hT
  obtain ⟨R, hR⟩ : ∃ R, R = textM (asM L) := ⟨_, rfl⟩
  rw [← hR]
  have HR := Lib.hid hR
  clear hE hs hn hT hR
  by_cases hz : E = 0
  case neg =>
    have t1 : (E != 0) = true := by rw [bne_iff_ne]; exact hz
    have HZ := Lib.hid hz
    clear hz
    go_enter Tryz.func8, Tryz.ntmps8
    go_wp2_with (go_at_call 11; refine HC.out.mono ?_; rintro e w1 ⟨rfl, hb1⟩)
    go_ret2
    exact ⟨by rw [if_neg HZ.out]; rfl, hb1⟩
  subst hz
  have h10 := labelF_len HE.out
  have HM := Lib.hid (fun w1 (hb : Below w.heap.size w w1) => matches_any (.slice ao n c) L w1 (HS.out.below lbR_mono hb) h10)
  clear h10
  go_enter Tryz.func8, Tryz.ntmps8
  go_wp2_with (go_at_call 11; refine HC.out.mono ?_; rintro e w1 ⟨rfl, hb1⟩)
  refine (HM.out w1 hb1).mono ?_
  rintro e w2 ⟨v2, rfl, ho2, hb2⟩
  have HX := Lib.hid (text_any v2 (asM L) w2 ho2.sp (labelF_match HE.out) ((HT.out.below hb1).below hb2))
  have HB := Lib.hid (hb1.trans (hb2.mono hb1.size))
  obtain ⟨vo, vc, rfl, -, -⟩ := ho2.shape
  rw [← HR.out] at HX
  clear ho2 hb1 hb2
  go_wp2_with (go_at_call 36; refine HX.out.mono ?_; rintro e w3 ⟨rfl, hb3⟩; have HB3 := Lib.hid hb3; clear hb3)
  go_ret2
  exact ⟨by rw [if_pos rfl]; rfl, HB.out.trans (HB3.out.mono HB.out.size)⟩
set_option maxHeartbeats 4000000 in
set_option maxRecDepth 100000 in
theorem mtt_any (v : Value) (M : List Mt) (w : World) (hs : Sp MtR 3 w v M) (hT : STab w) : Calls Tryz.prog 20 #[v] w (txP w (matchF M) (textM M)) := by
  obtain ⟨n, hn⟩ : ∃ n, M.length = n := ⟨_, rfl⟩
  obtain ⟨ao, c, rfl, hnc, hc⟩ := hs.shapeN hn
  have HS := Lib.hid hs
  have HC := Lib.hid (mtcheck_any _ M w hs)
  obtain ⟨E, hE⟩ : ∃ E, matchF M = E := ⟨_, rfl⟩
  rw [hE] at HC ⊢
  have HE := Lib.hid hE
  have HT := Lib.hid hT
  obtain ⟨R, hR⟩ : ∃ R, R = textM M := ⟨_, rfl⟩
  rw [← hR]
  have HR := Lib.hid hR
  clear hE hs hn hT hR
  by_cases hz : E = 0
  case neg =>
    have t1 : (E != 0) = true := by rw [bne_iff_ne]; exact hz
    have HZ := Lib.hid hz
    clear hz
    go_enter Tryz.func20, Tryz.ntmps20
    go_wp2_with (go_at_call 47; refine HC.out.mono ?_; rintro e w1 ⟨rfl, hb1⟩)
    go_ret2
    exact ⟨by rw [if_neg HZ.out]; rfl, hb1⟩
  subst hz
  have HX := Lib.hid (fun w1 (hb : Below w.heap.size w w1) => text_any (.slice ao n c) M w1 (HS.out.below mtR_mono hb) HE.out (HT.out.below hb))
  rw [← HR.out] at HX
  go_enter Tryz.func20, Tryz.ntmps20
  go_wp2_with (go_at_call 47; refine HC.out.mono ?_; rintro e w1 ⟨rfl, hb1⟩)
  refine (HX.out w1 hb1).mono ?_
  rintro e w3 ⟨rfl, hb3⟩
  have HB := Lib.hid (hb1.trans (hb3.mono hb1.size))
  clear hb1 hb3
  go_wp2_with fail
  go_ret2
  exact ⟨by rw [if_pos rfl]; rfl, HB.out⟩
set_option maxHeartbeats 4000000 in
set_option maxRecDepth 100000 in
theorem lbtext_any (v : Value) (L : List Lb) (w : World) (hs : Sp LbR 2 w v L) (h0 : labelF L = 0) : Calls Tryz.prog 12 #[v] w fun e w' => e = .returned (.string (mkS (textM (asM L)))) ∧ Below w.heap.size w w' := by
  have h10 := labelF_len h0
  have HM := Lib.hid (asmatches_any v L w hs h10)
  have HE := Lib.hid h0
  obtain ⟨ao, c, rfl, -, -⟩ := hs.shape
  obtain ⟨R, hR⟩ : ∃ R, R = textM (asM L) := ⟨_, rfl⟩
  rw [← hR]
  have HR := Lib.hid hR
  clear hs h10 h0 hR
  go_enter Tryz.func12, Tryz.ntmps12
  go_wp2_with fail
  refine HM.out.mono ?_
  rintro e w2 ⟨v2, rfl, ho2, hb2⟩
  have HX := Lib.hid (mtext_any v2 (asM L) w2 ho2.sp (labelF_match HE.out))
  have HB := Lib.hid hb2
  obtain ⟨vo, vc, rfl, -, -⟩ := ho2.shape
  rw [← HR.out] at HX
  clear ho2 hb2
  go_wp2_with (go_at_call 23; refine HX.out.mono ?_; rintro e w3 ⟨rfl, hb3⟩; have HB3 := Lib.hid hb3; clear hb3)
  go_ret
  exact ⟨rfl, HB.out.trans (HB3.out.mono HB.out.size)⟩
end Go.Proofs.YtjmplhkdohlbcaaGreatDoor.Lab
/-
  Expressions: how long a text is; the digits.
-/
namespace Go.Proofs.YtjmplhkdohlbcaaGreatDoor.Exp
open Go.RowKit Go.Gh Go.Proofs.YtjmplhkdohlbcaaGreatDoor.Lab
set_option linter.unusedVariables false
set_option linter.unusedSimpArgs false
theorem goL_names : ∀ {l : List Lb} {p : Option By}, goL p l = 0 → ∀ x ∈ l, nameOk x.nm = true
  | [], _, _ => fun x hx => by simp at hx
  | y :: r, p, h => fun x hx => by
    rw [goL_cons] at h
    split at h
    · exact absurd h (by decide)
    · rename_i h1
      split at h
      · exact absurd h (by decide)
      · split at h
        · exact absurd h (by decide)
        · rcases List.mem_cons.1 hx with rfl | hx
          · simpa using h1
          · exact goL_names h x hx
theorem byL_ok {b : List By} (h : labelF (byL b) = 0) : b.length ≤ 10 ∧ ∀ s ∈ b, s.length ≤ 20 := by
  have h1 := labelF_len h
  unfold byL at h1
  rw [List.length_map] at h1
  refine ⟨h1, fun s hs => ?_⟩
  have h2 : goL none (byL b) = 0 := by
    unfold labelF at h
    split at h
    · exact absurd h (by decide)
    · exact h
  exact (nameOk_all (goL_names h2 ⟨s, []⟩ (List.mem_map.2 ⟨s, hs, rfl⟩))).2.1
theorem byT_le {b : List By} (h : labelF (byL b) = 0) : (byT b).length ≤ 1100 := by
  obtain ⟨h1, h2⟩ := byL_ok h
  match b, h1, h2 with
  | [], _, _ => exact Nat.zero_le _
  | x :: r, h1, h2 =>
    have h3 := commas_le (x :: r) (fun z hz => by have := h2 z hz; omega)
    show ([32, 98, 121, 32] ++ commas (x :: r)).length ≤ _
    rw [List.length_append]
    have h4 : ([32, 98, 121, 32] : By).length = 4 := rfl
    omega
theorem dec_len : ∀ (k u : Nat), u < 10 ^ (k + 1) → (Lib.decDigits u).length ≤ k + 1
  | 0, u, h => by rw [Lib.decDigits_one (by omega)]; exact Nat.le_refl _
  | k + 1, u, h => by
    rw [Lib.decDigits]
    split
    · show 1 ≤ _; omega
    · rw [List.length_append]
      have := dec_len k (u / 10) (by have e : 10 ^ (k + 1 + 1) = 10 ^ (k + 1) * 10 := rfl; omega)
      have e : ([UInt8.ofNat (48 + u % 10)] : List UInt8).length = 1 := rfl
      omega
theorem itoa_len {n : Int} (h1 : -9223372036854775808 ≤ n) (h2 : n < 9223372036854775808) : (Lib.itoa n).length ≤ 20 := by
  unfold Lib.itoa
  split
  · rw [List.length_cons]
    have := dec_len 18 n.natAbs (by omega)
    omega
  · have := dec_len 18 n.toNat (by omega)
    omega
theorem textM_le {M : List Mt} (h : matchF M = 0) : (textM M).length ≤ 1060 := by
  have := commas_ok h
  unfold textM
  simp only [List.length_cons, List.length_append, List.length_nil]
  omega
theorem wrd_le (k : Int) : (wrd k).length ≤ 5 := by
  unfold wrd
  repeat (first | (split; · decide) | split)
  all_goals decide
/-- All numbers within a word. -/
inductive Num : Ex → Prop
  | mk {x : Ex} (h1 : -9223372036854775808 ≤ x.n) (h2 : x.n < 9223372036854775808) (h3 : -9223372036854775808 ≤ x.wd) (h4 : x.wd < 9223372036854775808) (h5 : ∀ y ∈ x.xs, Num y) : Num x
theorem txL_head {L : List Ex} : (txL L).headD [] = match L with | [] => [] | y :: _ => txX y := by
  cases L with
  | nil => rw [txL_nil]; rfl
  | cons y r => rw [txL_cons]; rfl
theorem txL_second {L : List Ex} : (txL L).getD 1 [] = match L with | _ :: y :: _ => txX y | _ => [] := by
  match L with
  | [] => rw [txL_nil]; rfl
  | [y] => rw [txL_cons, txL_nil]; rfl
  | y :: z :: r => rw [txL_cons, txL_cons]; rfl
theorem txX_len : ∀ (m : Nat) (x : Ex), szX x ≤ m → Num x → chX x = 0 → (txX x).length ≤ 2000 * szX x
  | 0, x, h, _, _ => by have := szX_pos x; omega
  | m + 1, x, h, hn, hc => by
    obtain ⟨hb, hm, hl, hx⟩ := chX_ok hc
    obtain ⟨n1, n2, n3, n4, n5⟩ := hn
    have hs := szX_eq x
    have q1 := textM_le hm
    have q2 := byT_le hl
    have q3 := itoa_len n1 n2
    have q4 := itoa_len n3 n4
    have q5 := wrd_le x.kd
    have hd : ((txL x.xs).headD []).length ≤ 2000 * szL (x.xs.take 1) := by
      rw [txL_head]
      match hxs : x.xs with
      | [] => exact Nat.zero_le _
      | y :: r =>
        have hy : x.xs[0]? = some y := by rw [hxs]; rfl
        have := szX_at hy
        have := txX_len m y (by omega) (n5 y (by rw [hxs]; simp)) (chL_at hx hy)
        show (txX y).length ≤ 2000 * szL [y]
        rw [szL_cons, szL_nil]
        omega
    have hd2 : ((txL x.xs).getD 1 []).length ≤ 2000 * szL (x.xs.drop 1) := by
      rw [txL_second]
      match hxs : x.xs with
      | [] => exact Nat.zero_le _
      | [y] => exact Nat.zero_le _
      | y :: z :: r =>
        have hy : x.xs[1]? = some z := by rw [hxs]; rfl
        have := szX_at hy
        have := txX_len m z (by omega) (n5 z (by rw [hxs]; simp)) (chL_at hx hy)
        show (txX z).length ≤ 2000 * szL (z :: r)
        rw [szL_cons]
        omega
    have hsum : szL (x.xs.take 1) + szL (x.xs.drop 1) = szL x.xs := by rw [← szL_app, List.take_append_drop]
    rw [txX_eq]
    unfold asmX
    split
    · omega
    · split
      · simp only [List.length_append, List.length_cons, List.length_nil]; omega
      · split
        · simp only [List.length_append, List.length_cons, List.length_nil]; omega
        · simp only [List.length_append, List.length_cons, List.length_nil]; omega
end Go.Proofs.YtjmplhkdohlbcaaGreatDoor.Exp
/-
  Expressions in memory.
-/
namespace Go.Proofs.YtjmplhkdohlbcaaGreatDoor.Exp
open Go.RowKit Go.Gh Go.Proofs.YtjmplhkdohlbcaaGreatDoor.Lab
set_option linter.unusedVariables false
set_option linter.unusedSimpArgs false
/-- A cell that reads as a text. -/
def StrR (w : World) (s : By) (c : List Value) : Prop := c = [.string (mkS s)] ∧ s.length ≤ 1048576
theorem strR_mono : Mono StrR := fun _ _ _ _ h _ => h
/-- Six cells that read as an expression of a depth. -/
def ExD : Nat → World → Ex → List Value → Prop
  | 0 => fun _ _ _ => False
  | d + 1 => fun w x c => ∃ vm vb vx, c = [.int .i64 x.kd, .int .i64 x.n, .int .i64 x.wd, vm, vb, vx] ∧ Sp MtR 3 w vm x.ms ∧ Sp StrR 1 w vb x.bs ∧ Sp (ExD d) 6 w vx x.xs ∧ x.bs.length ≤ 1048576 ∧
      -9223372036854775808 ≤ x.kd ∧ x.kd < 9223372036854775808 ∧ -9223372036854775808 ≤ x.n ∧ x.n < 9223372036854775808 ∧ -9223372036854775808 ≤ x.wd ∧ x.wd < 9223372036854775808
theorem exD_mono : ∀ d, Mono (ExD d)
  | 0 => fun _ _ _ _ h _ => h.elim
  | d + 1 => fun w w' x c ⟨vm, vb, vx, e, h1, h2, h3, h4⟩ hb => ⟨vm, vb, vx, e, h1.below mtR_mono hb, h2.below strR_mono hb, h3.below (exD_mono d) hb, h4⟩
theorem sp_all {α : Type} {R : World → α → List Value → Prop} {k : Nat} {w : World} {v : Value} {L : List α} (h : Sp R k w v L) : ∀ a ∈ L, ∃ c, R w a c := by
  obtain ⟨P, h1, _, h3, _⟩ := h
  intro a ha
  rw [← h1] at ha
  obtain ⟨p, hp, rfl⟩ := List.mem_map.1 ha
  exact ⟨p.2, h3 p hp⟩
theorem exD_num : ∀ (d : Nat) (w : World) (x : Ex) (c : List Value), ExD d w x c → Num x
  | 0, _, _, _, h => h.elim
  | d + 1, w, x, c, ⟨_, _, _, _, _, _, h3, _, _, _, h4, h5, h6, h7⟩ => .mk h4 h5 h6 h7 fun y hy => by
    obtain ⟨c, hc⟩ := sp_all h3 y hy
    exact exD_num d w y c hc
/-- The shapes of the six cells. -/
theorem exD_shape {d : Nat} {w : World} {x : Ex} {c : List Value} (h : ExD d w x c) : ∃ k0 k1 k2 am lm cm ab lb cb ax lx cx, c = [.int .i64 k0, .int .i64 k1, .int .i64 k2, .slice am lm cm, .slice ab lb cb, .slice ax lx cx] := by
  cases d with
  | zero => exact h.elim
  | succ d =>
    obtain ⟨vm, vb, vx, rfl, h1, h2, h3, _⟩ := h
    obtain ⟨am, cm, rfl, -, -⟩ := h1.shape
    obtain ⟨ab, cb, rfl, -, -⟩ := h2.shape
    obtain ⟨ax, cx, rfl, -, -⟩ := h3.shape
    exact ⟨_, _, _, _, _, _, _, _, _, _, _, _, rfl⟩
/-- An expression by value. -/
def IsEx (w : World) (v : Value) (x : Ex) : Prop := ∃ d c, v = .agg c.toArray ∧ ExD d w x c
end Go.Proofs.YtjmplhkdohlbcaaGreatDoor.Exp
