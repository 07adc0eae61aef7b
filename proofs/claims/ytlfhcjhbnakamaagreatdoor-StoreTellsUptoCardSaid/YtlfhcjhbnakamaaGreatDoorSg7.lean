/-
  Matches: the walk of text.
-/
import Derived.Test.YtlfhcjhbnakamaaGreatDoorSg1
import Derived.Test.YtlfhcjhbnakamaaGreatDoorSg3
import Derived.Test.YtlfhcjhbnakamaaGreatDoorSg6
import Derived.Deep.RegionHeld3
import Derived.Lib.Join
import Derived.ProofKit
import Derived.OpenShut
import Derived.Lib.LaidTab
import Derived.WalkKit
import Derived.IntWalk
import Derived.Test.YtlfhcjhbnakamaaGreatDoorRows
import Derived.Handy
import Derived.OwnWalk
import Derived.Outline
namespace Go.Proofs.YtlfhcjhbnakamaaGreatDoor.Lab
open Go.RowKit Go.Gh
set_option linter.unusedVariables false
set_option linter.unusedSimpArgs false
/-- The table of signs. -/
def STab (w : World) : Prop := ∀ k : Nat, k < 5 → w.cell? ⟨0, k, none⟩ = some (.string (mkS (sgn k)))
theorem STab.below {w w' : World} (h : STab w) (hb : Below w.heap.size w w') : STab w' := fun k hk => (hb.cell (p := ⟨0, k, none⟩) (cell_lt (h k hk))).trans (h k hk)
theorem commas_join : ∀ l : List By, commas l = Lib.join l [44]
  | [] => rfl
  | [x] => (Lib.join_one x [44]).symm
  | x :: y :: r => by
    have ih := commas_join (y :: r)
    rw [commas, ih]
    simp [Lib.join, List.intercalate, List.intersperse]
theorem esc_le (v : By) : (esc v).length ≤ 2 * v.length := by
  rw [Rep.esc_len]
  have := Rep.sp_len v
  omega
theorem sgn_le (k : Int) : (sgn k).length ≤ 2 := by
  unfold sgn
  split; decide
  split; decide
  split; decide
  split; decide
  decide
theorem mtx_le {m : Mt} (h1 : m.nm.length ≤ 20) (h2 : m.vl.length ≤ 40) : (mtx m).length ≤ 104 := by
  unfold mtx quo
  have h3 := esc_le m.vl
  have h4 := sgn_le m.kd
  simp only [List.length_append, List.length_cons, List.length_nil]
  omega
theorem commas_le : ∀ (l : List By), (∀ x ∈ l, x.length ≤ 104) → (commas l).length ≤ 105 * l.length
  | [], _ => by decide
  | [x], h => by
    have := h x (by simp)
    show x.length ≤ _
    simp; omega
  | x :: y :: r, h => by
    have h1 := h x (by simp)
    have ih := commas_le (y :: r) (fun z hz => h z (by simp [hz]))
    rw [commas, List.length_append, List.length_cons]
    simp only [List.length_cons] at ih ⊢
    omega
theorem ok_mem {M : List Mt} (h : matchF M = 0) {m : Mt} (hm : m ∈ M) : 1 ≤ m.kd ∧ m.kd ≤ 4 ∧ m.nm.length ≤ 20 ∧ m.vl.length ≤ 40 := by
  obtain ⟨h1, h2, h3, h4⟩ := (matchF_zero h).2 m hm
  exact ⟨h1, h2, (nameOk_all h3).2.1, h4⟩
theorem commas_ok {M : List Mt} (h : matchF M = 0) : (commas (M.map mtx)).length ≤ 1050 := by
  have h1 := commas_le (M.map mtx) (fun x hx => by
    obtain ⟨m, hm, rfl⟩ := List.mem_map.1 hx
    obtain ⟨_, _, q3, q4⟩ := ok_mem h hm
    exact mtx_le q3 q4)
  rw [List.length_map] at h1
  have := (matchF_zero h).1
  omega
theorem own_some {w : World} {B n : Nat} {e : TypeId} {uo : Option Addr} {uc size : Nat} {xs : List Value} (h : w.ownsRow B e size (.slice uo n uc) n xs) (hn : 0 < n) : ∃ g, uo = some ⟨g, 0, none⟩ := by
  rcases h.2 with ⟨_, e⟩ | ⟨g, cap, cur, e, _⟩
  · omega
  · injection e with e1 e2 e3
    exact ⟨g, e1⟩
theorem own_cap {w : World} {B n : Nat} {e : TypeId} {uo : Option Addr} {uc size : Nat} {xs : List Value} (h : w.ownsRow B e size (.slice uo n uc) n xs) : n ≤ uc := by
  obtain ⟨ao, c, e, h1, _⟩ := own_shape h
  injection e with e1 e2 e3
  omega
def mtS (m : Mt) : Value := .string (mkS (mtx m))
set_option maxHeartbeats 8000000 in
set_option maxRecDepth 100000 in
theorem text_any (v : Value) (M : List Mt) (w : World) (hs : Sp MtR 3 w v M) (h0 : matchF M = 0) (hT : STab w) : Calls Tryz.prog 32 #[v] w fun e w' => e = .returned (.string (mkS (textM M))) ∧ Below w.heap.size w w' := by
  obtain ⟨n, hn⟩ : ∃ n, M.length = n := ⟨_, rfl⟩
  obtain ⟨ao, c, rfl, hnc, hc⟩ := hs.shapeN hn
  have HN := Lib.hid hn
  have hn10 : n ≤ 10 := by have := (matchF_zero h0).1; omega
  have HOK := Lib.hid (fun m (hm : m ∈ M) => ok_mem h0 hm)
  have HCM := Lib.hid (commas_ok h0)
  have HS := Lib.hid hs
  have HT := Lib.hid hT
  obtain ⟨R, hR⟩ : ∃ R, mkS (textM M) = R := ⟨_, rfl⟩
  rw [hR]
  have HR := Lib.hid hR
  clear hn h0 hs hT hR
  go_enter Tryz.func32, Tryz.ntmps32
  go_wp2_with fail
  go_loopw [3, 8] (fun o i wr => ∃ k : Nat, k ≤ n ∧ i = .int .i64 k ∧ Hid (wr.ownsRow w.heap.size 9 1 o k ((M.take k).map mtS)) ∧ Hid (Below w.heap.size w wr)) (fun _ i _ => n - (intOf i).toNat)
  case atStart => exact ⟨0, Nat.zero_le _, rfl, Lib.hid (World.ownsRow_nil _ _ _ _), Lib.hid (Below.refl _ _)⟩
  case round =>
    obtain ⟨k, hk, rfl, HO, HB⟩ := hrel
    obtain ⟨uo, uc, rfl, -, -, -⟩ := own_shape HO.out
    by_cases hlt : k < n
    case neg =>
      obtain rfl : k = n := by omega
      have HL : Hid (commas (M.map mtx) = Lib.join ((M.map fun m => mkS (mtx m)).map (·.data.toList)) (⟨#[44]⟩ : ByteArray).data.toList) := Lib.hid (by
        rw [commas_join, List.map_map]
        rfl)
      have hcl := HCM.out
      obtain ⟨E, hE⟩ : ∃ E, E = mkS (commas (M.map mtx)) := ⟨_, rfl⟩
      have hEs : E.size ≤ 1050 := by rw [hE, mkS_size]; exact hcl
      have hs1 : 1 + E.size ≤ 9223372036854775807 := by omega
      have hs2 : 1 + E.size + 1 ≤ 9223372036854775807 := by omega
      have HE : Hid ((⟨#[123]⟩ : ByteArray) ++ E ++ ⟨#[125]⟩ = R) := Lib.hid (by
        rw [← HR.out, hE]
        show mkS [123] ++ mkS _ ++ mkS [125] = _
        rw [mkS_app, mkS_app]
        unfold textM
        rfl)
      have HJ : Hid (Calls Tryz.prog 63 #[.slice uo k uc, .string ⟨#[44]⟩] wr fun e w' => e = .returned (.string E) ∧ Below wr.heap.size wr w') := Lib.hid (by
        rcases Nat.eq_zero_or_pos k with h0 | h0
        · have hM0 : M = [] := List.length_eq_zero_iff.1 (HN.out.trans h0)
          refine (YtlfhcjhbnakamaaGreatDoor.strings_Join_none uo uc ⟨#[44]⟩ wr).mono ?_ |> fun h => by rw [h0]; exact h
          rintro e w' ⟨rfl, rfl⟩
          exact ⟨by rw [hE, hM0]; rfl, Below.refl _ _⟩
        · obtain ⟨g, rfl⟩ := own_some HO.out h0
          have hlt2 : g < wr.heap.size := (HO.out.lt g rfl).2
          have hcells : ∀ (j : Nat) y, (M.map fun m => mkS (mtx m))[j]? = some y → wr.cell? ⟨g, 0 + j, none⟩ = some (.string y) := by
            intro j y hj
            have h := HO.out.cells (g := g) rfl j (.string y) (by
              rw [List.take_of_length_le (Nat.le_of_eq HN.out)]
              rw [List.getElem?_map] at hj ⊢
              obtain ⟨m, hm, rfl⟩ := Option.map_eq_some_iff.1 hj
              rw [hm]
              rfl)
            rw [addr_add] at h
            exact h
          have hxl : (M.map fun m => mkS (mtx m)).length = k := by rw [List.length_map, HN.out]
          have h := YtlfhcjhbnakamaaGreatDoor.strings_Join g 0 uc (M.map fun m => mkS (mtx m)) ⟨#[44]⟩ wr hcells hlt2 (by rw [hxl]; omega) (by rw [hxl]; exact (own_cap HO.out)) (by rw [← HL.out]; omega)
          rw [hxl, ← HL.out] at h
          refine h.mono ?_
          rintro e w' ⟨rfl, hb⟩
          exact ⟨by rw [hE]; rfl, hb⟩)
      clear hE hcl hEs
      go_wp2_with fail
      refine HJ.out.mono ?_
      rintro e w2 ⟨rfl, hb2⟩
      have HB2 := Lib.hid (HB.out.trans (hb2.mono HB.out.size))
      clear hb2
      go_wp2_with fail
      go_ret
      exact ⟨by rw [← HE.out]; rfl, HB2.out⟩
    obtain ⟨x, hx⟩ : ∃ x, M[k]? = some x := ⟨_, List.getElem?_eq_getElem (by rw [HN.out]; exact hlt)⟩
    obtain ⟨o1, o2, o3, o4⟩ := HOK.out x (List.mem_of_getElem? hx)
    obtain ⟨b, off, cs, rfl, ⟨rfl, hb1, hb2, hk1, hk2⟩, _, hck⟩ := (HS.out.below mtR_mono HB.out).get hx
    have c0 := hck 0 _ rfl
    have c1 := hck 1 _ rfl
    have c2 := hck 2 _ rfl
    rw [Nat.add_zero] at c0
    obtain ⟨κ, hκ⟩ : ∃ κ : Nat, x.kd = (κ : Int) := ⟨x.kd.toNat, by omega⟩
    rw [hκ] at c0 o1 o2
    have hκ5 : κ < 5 := by omega
    have hκi : (κ : Int) < 5 := by omega
    obtain ⟨Sn, hSn⟩ : ∃ S, S = mkS x.nm := ⟨_, rfl⟩
    obtain ⟨V, hV⟩ : ∃ S, S = mkS x.vl := ⟨_, rfl⟩
    obtain ⟨Sg, hSg⟩ : ∃ S, S = mkS (sgn κ) := ⟨_, rfl⟩
    obtain ⟨Qv, hQv⟩ : ∃ S, S = mkS (quo x.vl) := ⟨_, rfl⟩
    have hsz1 : Sn.size ≤ 20 := by rw [hSn, mkS_size]; exact o3
    have hsz2 : Sg.size ≤ 2 := by rw [hSg, mkS_size]; exact sgn_le _
    have hsz3 : Qv.size ≤ 82 := by
      rw [hQv, mkS_size]
      unfold quo
      have := esc_le x.vl
      simp only [List.length_cons, List.length_append, List.length_nil]
      omega
    have HMX : Hid (.string (Sn ++ Sg ++ Qv) = mtS x) := Lib.hid (by
      rw [hSn, hSg, hQv, mkS_app, mkS_app]
      unfold mtS mtx
      rw [hκ, List.append_assoc])
    have HQ := Lib.hid (fun W => Rep.quoted_any x.vl W (by omega))
    rw [← hV] at c2
    rw [← hSn] at c1
    rw [← hV, ← hQv] at HQ
    have hg := (HT.out.below HB.out) κ hκ5
    rw [← hSg] at hg
    have HNX : Hid ((M.take (k + 1)).map mtS = (M.take k).map mtS ++ [.string (Sn ++ Sg ++ Qv)]) := Lib.hid (by
      rw [List.take_add_one, hx, List.map_append, HMX.out]
      rfl)
    obtain ⟨G, hG⟩ : ∃ G, G = wr.heap.size := ⟨_, rfl⟩
    have HNG : Hid (some G ≠ (Value.slice uo k uc).ownBlock) := Lib.hid (fun h => by have := (HO.out.lt G h.symm).2; omega)
    have HN0 : Hid (some 0 ≠ (Value.slice uo k uc).ownBlock) := Lib.hid (fun h => by
      have h1 := (HO.out.lt 0 h.symm).1
      have h2 := cell_lt (HT.out 0 (by decide))
      omega)
    have hs1 : (9223372036854775807 < Sn.size + Sg.size) = False := eq_false (by omega)
    have hs2 : (9223372036854775807 < Sn.size + Sg.size + Qv.size) = False := eq_false (by omega)
    clear hSn hV hSg hQv hck hx hκ hsz1 hsz2 hsz3 o1 o2 o3 o4 hk1 hk2 hb1 hb2
    go_upto_region 5 with (fail)
    obtain ⟨W5, hW5⟩ : ∃ W5, W5 = wr.alloc (Obj.cells #[.int .i64 κ, .string Sn, .string V] 70) := ⟨_, rfl⟩
    rw [← hW5, ← hG]
    have hbox : W5.heap[G]? = some (.cells #[.int .i64 κ, .string Sn, .string V] 70 (0, 0)) := by rw [hW5, hG]; exact heap_alloc_new wr _
    have hbw : Below wr.heap.size wr W5 := by rw [hW5]; exact (Below.refl _ _).alloc (Nat.le_refl _) _
    have HO5 : Hid (W5.drew.ownsRow w.heap.size 9 1 (.slice uo k uc) k ((M.take k).map mtS)) := Lib.hid (own_below (own_below HO.out hbw) (Below.refl _ _).drew)
    have HB5 : Hid (Below w.heap.size w W5.drew) := Lib.hid (HB.out.trans (hbw.mono HB.out.size)).drew
    have y0 : W5.drew.cell? ⟨G, 0, none⟩ = some (.int .i64 κ) := (row_cell 0 _ hbox rfl).1
    have y1 : W5.drew.cell? ⟨G, 1, none⟩ = some (.string Sn) := (row_cell 1 _ hbox rfl).1
    have y2 : W5.drew.cell? ⟨G, 2, none⟩ = some (.string V) := (row_cell 2 _ hbox rfl).1
    have y3 : W5.drew.cell? ⟨0, κ, none⟩ = some (.string Sg) := (hbw.cell (cell_lt hg)).trans hg
    have hs5 : w.heap.size ≤ W5.drew.heap.size := HB5.out.size
    clear hW5 hG hbox hbw hg c0 c1 c2
    go_region_held3 (fun w' => w'.cell? ⟨G, 0, none⟩ = some (.int .i64 κ) ∧ w'.cell? ⟨G, 1, none⟩ = some (.string Sn) ∧ w'.cell? ⟨G, 2, none⟩ = some (.string V) ∧ w'.cell? ⟨0, κ, none⟩ = some (.string Sg)) (first | (with_reducible exact ⟨y0, y1, y2, y3⟩) | (with_reducible exact ⟨z0, z1, z2, z3⟩) | (with_reducible exact ⟨r0, r1, r2, r3⟩) | go_keep) (first
      | (go_at_call 62; refine (HQ.out _).mono ?_; rintro e w2 ⟨rfl, hb2⟩; have z0 := (hb2.cell (cell_lt y0)).trans y0; have z1 := (hb2.cell (cell_lt y1)).trans y1; have z2 := (hb2.cell (cell_lt y2)).trans y2; have z3 := (hb2.cell (cell_lt y3)).trans y3; have HO2 := Lib.hid (own_below HO5.out hb2); have HBW2 := Lib.hid (HB5.out.trans (hb2.mono hs5)))
      | (refine step_app1 [.string (Sn ++ Sg ++ Qv)] Rep.elStr rfl _ _ rfl HO2.out HBW2.out (Nat.le_refl _) HBW2.out.size rfl rfl rfl (by intro x hx; simp at hx; subst hx; rfl) (by omega) (by omega) ?_; intro g cap w3 hown3 hbel3 hgr3; have r0 := hgr3.cell z0 HNG.out; have r1 := hgr3.cell z1 HNG.out; have r2 := hgr3.cell z2 HNG.out; have r3 := hgr3.cell z3 HN0.out; have HO3 := Lib.hid hown3; have HB3 := Lib.hid hbel3))
    all_goals
      have HO4 : Hid (w3.ownsRow w.heap.size 9 1 (.slice (some ⟨g, 0, none⟩) (k + 1) cap) (k + 1) ((M.take (k + 1)).map mtS)) := Lib.hid (by rw [HNX.out]; exact HO3.out)
      go_wp2_with fail
      go_roundw
      case rel => exact ⟨k + 1, by omega, by go_num, HO4, HB3⟩
      case measure => simp [intOf]; omega
end Go.Proofs.YtlfhcjhbnakamaaGreatDoor.Lab
/-
  Labels, matches and texts that came in, under the bound on the bulk; the table of signs as the row's list lays it.
-/
namespace Go.Proofs.YtlfhcjhbnakamaaGreatDoor.Lab
open Go.RowKit Go.Gh Go.WideShapes Go.ChangeShapes Go.ChangeAt Go.Deep Go.Joins
set_option linter.unusedVariables false
set_option linter.unusedSimpArgs false
set_option maxRecDepth 100000
def IsLbs (w : World) (v : Value) : Prop := ∃ L : List Lb, Sp LbR 2 w v L
def IsMts (w : World) (v : Value) : Prop := ∃ L : List Mt, Sp MtR 3 w v L
def IsTx (v : Value) : Prop := ∃ l : By, v = .string (mkS l) ∧ l.length ≤ 1048576
theorem gSig : Tryz.prog.globalNamed "gaugehouse/label.signs" = some 0 := by kernel_rfl
theorem gSigType : (Tryz.prog.globals[0]?).map (·.type) = some 94 := by kernel_rfl
theorem cellsSig : Tryz.prog.cellsOf 94 = 5 := by kernel_rfl
theorem cellsStr : Tryz.prog.cellsOf 9 = 1 := by kernel_rfl
theorem cellsInt : Tryz.prog.cellsOf 3 = 1 := by kernel_rfl
theorem cellsLb : Tryz.prog.cellsOf 72 = 2 := by kernel_rfl
theorem cellsMt : Tryz.prog.cellsOf 70 = 3 := by kernel_rfl
section
variable {H : Type} {enc : TypeId × Value → H} {W : World} {base b0 : Nat} {r : Reach} {spare : Nat → Bool} {held : Bool} {v : Value} {d : DataW H} {ps : List MemPlace}
theorem str_cell {fuel : Nat} {c : Value} {x : DataW H × List MemPlace} {l : By} (h : DataW.trod enc Tryz.prog W base spare held fuel 9 [c] = some x) (hx : x.1 = .lit (.string l)) : c = .string (mkS l) := by
  obtain ⟨s, e, rfl, _⟩ := DataW.trod_string Tryz.underlying9 h
  simp only [DataW.lit.injEq, Lit.string.injEq] at hx
  have e' : c = .string s := by simpa using e
  rw [e', of_mkS s, hx]
theorem stab_of_laid {W : World} {rest : List (String × DataW Unit)} (h : laidMet Tryz.prog (("gaugehouse/label.signs", Rows.laid_gaugehouse_label_signs) :: rest) W) : STab W := by
  obtain ⟨ps, ⟨g, t, cs, fuel, p, q, hg, ht, hvar, hd, _, _⟩, _⟩ := h
  obtain rfl := Option.some.inj (gSig.symm.trans hg)
  obtain rfl := Option.some.inj (gSigType.symm.trans ht)
  obtain ⟨xs, m, rfl, hx, hlen, hn, hel⟩ := DataW.trod_array Tryz.underlying94 hd
  obtain ⟨l⟩ := cs
  rw [cellsSig] at hlen
  rw [cellsStr] at hel
  simp only [Prod.mk.injEq] at hx
  have hx1 := hx.1
  simp only [Rows.laid_gaugehouse_label_signs, DataW.agg.injEq] at hx1
  match xs, hn, hx1 with
  | [x0, x1, x2, x3, x4], _, hx1 =>
    simp only [List.map_cons, List.map_nil, List.cons.injEq, and_true] at hx1
    obtain ⟨e0, e1, e2, e3, e4⟩ := hx1
    match l, hlen with
    | [c0, c1, c2, c3, c4], _ =>
      have r0 := str_cell (hel 0 (by decide)) e0.symm
      have r1 := str_cell (hel 1 (by decide)) e1.symm
      have r2 := str_cell (hel 2 (by decide)) e2.symm
      have r3 := str_cell (hel 3 (by decide)) e3.symm
      have r4 := str_cell (hel 4 (by decide)) e4.symm
      subst r0 r1 r2 r3 r4
      intro k hk
      have c := World.var?_cell hg hvar k
      have : k = 0 ∨ k = 1 ∨ k = 2 ∨ k = 3 ∨ k = 4 := by omega
      rcases this with rfl | rfl | rfl | rfl | rfl <;> exact c
theorem str_len {fuel : Nat} {c : Value} {x : DataW H × List MemPlace} (h : DataW.trod enc Tryz.prog W base spare held fuel 9 [c] = some x) (hb : Rows.uptoBulk x.1 ≤ 1048576) : ∃ l : By, c = .string (mkS l) ∧ l.length ≤ 1048576 := by
  obtain ⟨s, e, rfl, _⟩ := DataW.trod_string Tryz.underlying9 h
  simp only [Rows.uptoBulk] at hb
  exact ⟨s.data.toList, by rw [← of_mkS]; simpa using e, by omega⟩
theorem trod_lbB {fuel : Nat} {c0 c1 : Value} {x : DataW H × List MemPlace} (h : DataW.trod enc Tryz.prog W base spare held fuel 72 [c0, c1] = some x) (hb : Rows.uptoBulk x.1 ≤ 1048576) : ∃ y : Lb, LbR W y [c0, c1] := by
  obtain ⟨ys, n2, _, rfl, _, hyl, hfy⟩ := DataW.trod_struct Tryz.underlying72 h
  have hys : ys.length = 2 := hyl
  have g0 : DataW.trod enc Tryz.prog W base spare held n2 9 (([c0, c1].drop 0).take (Tryz.prog.cellsOf 9)) = ys[0]? := hfy 0 _ rfl
  have g1 : DataW.trod enc Tryz.prog W base spare held n2 9 (([c0, c1].drop 1).take (Tryz.prog.cellsOf 9)) = ys[1]? := hfy 1 _ rfl
  rw [cellsStr] at g0 g1
  simp only [List.drop, List.take] at g0 g1
  rw [List.getElem?_eq_getElem (by rw [hys]; decide)] at g0 g1
  obtain ⟨l0, rfl, h0⟩ := str_len g0 (bulk_field hb (List.getElem?_eq_getElem (l := ys) (i := 0) (by rw [hys]; decide)))
  obtain ⟨l1, rfl, h1⟩ := str_len g1 (bulk_field hb (List.getElem?_eq_getElem (l := ys) (i := 1) (by rw [hys]; decide)))
  exact ⟨⟨l0, l1⟩, rfl, by show l0.length ≤ _; omega, by show l1.length ≤ _; omega⟩
theorem trod_mtB {fuel : Nat} {c0 c1 c2 : Value} {x : DataW H × List MemPlace} (h : DataW.trod enc Tryz.prog W base spare held fuel 70 [c0, c1, c2] = some x) (hb : Rows.uptoBulk x.1 ≤ 1048576) : ∃ y : Mt, MtR W y [c0, c1, c2] := by
  obtain ⟨ys, n2, _, rfl, _, hyl, hfy⟩ := DataW.trod_struct Tryz.underlying70 h
  have hys : ys.length = 3 := hyl
  have g0 : DataW.trod enc Tryz.prog W base spare held n2 3 (([c0, c1, c2].drop 0).take (Tryz.prog.cellsOf 3)) = ys[0]? := hfy 0 _ rfl
  have g1 : DataW.trod enc Tryz.prog W base spare held n2 9 (([c0, c1, c2].drop 1).take (Tryz.prog.cellsOf 9)) = ys[1]? := hfy 1 _ rfl
  have g2 : DataW.trod enc Tryz.prog W base spare held n2 9 (([c0, c1, c2].drop 2).take (Tryz.prog.cellsOf 9)) = ys[2]? := hfy 2 _ rfl
  rw [cellsInt] at g0
  rw [cellsStr] at g1 g2
  simp only [List.drop, List.take] at g0 g1 g2
  rw [List.getElem?_eq_getElem (by rw [hys]; decide)] at g0 g1 g2
  obtain ⟨z, e0, _, w0⟩ := DataW.trod_int Tryz.underlying3 g0
  have e0' : c0 = .int .i64 z := by simpa using e0
  obtain ⟨l1, rfl, h1⟩ := str_len g1 (bulk_field hb (List.getElem?_eq_getElem (l := ys) (i := 1) (by rw [hys]; decide)))
  obtain ⟨l2, rfl, h2⟩ := str_len g2 (bulk_field hb (List.getElem?_eq_getElem (l := ys) (i := 2) (by rw [hys]; decide)))
  have hw := wf_i64 w0
  exact ⟨⟨z, l1, l2⟩, by rw [e0'], by show l1.length ≤ _; omega, by show l2.length ≤ _; omega, hw.1, hw.2⟩
theorem isLbsB_of (hv : Value.okWide Tryz.prog W r b0 22 v) (hd : DataW.Trod enc Tryz.prog W base spare held 22 v d ps) (hb : Rows.uptoBulk d ≤ 1048576) : IsLbs W v := by
  obtain ⟨a0, len, cap, rfl⟩ := okWide_slice Tryz.underlying22 hv
  obtain ⟨fuel, hf⟩ := hd
  have hf' : DataW.trod enc Tryz.prog W base spare held fuel 22 [.slice a0 len cap] = some (d, ps) := by simpa [Value.cells] using hf
  obtain ⟨L, hL, _⟩ := sp_ofB (R := LbR) (M := 1048576) ⟨⟨[], []⟩⟩ Tryz.underlying22 cellsLb (by decide) (fun fuel cs x h1 h2 h3 => by
    match cs, h2 with
    | [c0, c1], _ => exact trod_lbB h1 h3) hf' hb
  exact ⟨L, hL⟩
theorem isMtsB_of (hv : Value.okWide Tryz.prog W r b0 34 v) (hd : DataW.Trod enc Tryz.prog W base spare held 34 v d ps) (hb : Rows.uptoBulk d ≤ 1048576) : IsMts W v := by
  obtain ⟨a0, len, cap, rfl⟩ := okWide_slice Tryz.underlying34 hv
  obtain ⟨fuel, hf⟩ := hd
  have hf' : DataW.trod enc Tryz.prog W base spare held fuel 34 [.slice a0 len cap] = some (d, ps) := by simpa [Value.cells] using hf
  obtain ⟨L, hL, _⟩ := sp_ofB (R := MtR) (M := 1048576) ⟨⟨0, [], []⟩⟩ Tryz.underlying34 cellsMt (by decide) (fun fuel cs x h1 h2 h3 => by
    match cs, h2 with
    | [c0, c1, c2], _ => exact trod_mtB h1 h3) hf' hb
  exact ⟨L, hL⟩
theorem isTxB_of (hv : Value.okWide Tryz.prog W r b0 9 v) (hd : DataW.Trod enc Tryz.prog W base spare held 9 v d ps) (hb : Rows.uptoBulk d ≤ 1048576) : IsTx v := by
  obtain ⟨s, rfl⟩ := okWide_string Tryz.underlying9 hv
  obtain ⟨fuel, hf⟩ := hd
  have hf' : DataW.trod enc Tryz.prog W base spare held fuel 9 [.string s] = some (d, ps) := by simpa [Value.cells] using hf
  obtain ⟨l, e, h⟩ := str_len hf' hb
  exact ⟨l, e, h⟩
end
end Go.Proofs.YtlfhcjhbnakamaaGreatDoor.Lab
/-
  Plain facts about numbers as bytes: signs turned into the last bit, and groups of seven bits.
-/
namespace Go.Gh
open Go.RowKit

theorem u64_xor_zero (x : Int) (h0 : 0 ≤ x) (h1 : x < 18446744073709551616) : bits .xor .u64 x 0 = x := by
  rw [u64_xor x 0 h0 h1 (by decide) (by decide)]
  simp [Int.toNat_of_nonneg h0]

theorem u64_xor_ones (x : Int) (h0 : 0 ≤ x) (h1 : x < 18446744073709551616) : bits .xor .u64 x 18446744073709551615 = 18446744073709551615 - x := by
  obtain ⟨n, rfl⟩ := Int.eq_ofNat_of_zero_le h0
  have hn : n < 2 ^ 64 := by omega
  rw [u64_xor _ _ h0 h1 (by decide) (by decide), Int.toNat_natCast]
  have e : (18446744073709551615 : Int).toNat = (BitVec.allOnes 64).toNat := by decide
  have e2 : n = (BitVec.ofNat 64 n).toNat := by simp [Nat.mod_eq_of_lt hn]
  rw [e]
  have e3 : n ^^^ (BitVec.allOnes 64).toNat = (BitVec.ofNat 64 n ^^^ BitVec.allOnes 64).toNat := by rw [BitVec.toNat_xor, ← e2]
  rw [e3, BitVec.xor_allOnes, BitVec.toNat_not, ← e2]
  omega

theorem i64_xor_zero (a : Int) (h0 : 0 ≤ a) (h1 : a < 9223372036854775808) : bits .xor .i64 a 0 = a := by
  have e : BitVec.ofInt 64 0 = 0#64 := rfl
  show IntKind.i64.wrap ((BitVec.ofInt 64 a ^^^ BitVec.ofInt 64 0).toNat : Int) = a
  rw [e, BitVec.xor_zero, BitVec.toNat_ofInt, Int.toNat_of_nonneg (by omega)]
  rw [IntKind.wrap_i64]
  omega

theorem i64_xor_ones (a : Int) (h0 : 0 ≤ a) (h1 : a < 9223372036854775808) : bits .xor .i64 a (-1) = -a - 1 := by
  have e : BitVec.ofInt 64 (-1) = BitVec.allOnes 64 := by decide
  show IntKind.i64.wrap ((BitVec.ofInt 64 a ^^^ BitVec.ofInt 64 (-1)).toNat : Int) = -a - 1
  rw [e, BitVec.xor_allOnes, BitVec.toNat_not, BitVec.toNat_ofInt]
  rw [IntKind.wrap_i64]
  omega

theorem and_one (u : Int) (h0 : 0 ≤ u) (h1 : u < 18446744073709551616) : bits .and .u64 u 1 = u % 2 := by
  rw [u64_and u 1 h0 h1 (by decide) (by decide)]
  have e : (1 : Int).toNat = 1 := rfl
  rw [e, nat_mask1]
  omega
end Go.Gh
/-
  The walks of package bits: numbers as bytes; and of the references to them.
-/
namespace Go.Proofs.YtlfhcjhbnakamaaGreatDoor.Bits
open Go.RowKit Go.Gh
set_option linter.unusedVariables false

def zigI (n : Int) : Int := if n < 0 then -2 * n - 1 else 2 * n
def zagI (u : Int) : Int := if u % 2 = 1 then -(u / 2) - 1 else u / 2

/-- A number off the front of bytes, from byte i on with u so far: (number, how many bytes, error). -/
def takeS (u : Int) (i : Nat) : List Int → Int × Int × Int
  | [] => (0, 0, 3)
  | b :: rest => if (i = 9 ∧ 1 < b) ∨ (0 < i ∧ b = 0) then (0, 0, 4) else
    if b < 128 then (u + b % 128 * 2 ^ (7 * i), i + 1, 0) else takeS (u + b % 128 * 2 ^ (7 * i)) (i + 1) rest
def ret3 (r : Int × Int × Int) : Ending := .returned (.tuple #[.int .u64 r.1, .int .i64 r.2.1, .int .i64 r.2.2])

theorem ret3_mk {a b c : Int} {r : Int × Int × Int} {a' b' c' : Int} (ha : a = a') (hb : b = b') (hc : c = c') (h : (a', b', c') = r) : Ending.returned (.tuple #[.int .u64 a, .int .i64 b, .int .i64 c]) = ret3 r := by
  subst ha hb hc h; rfl
theorem take_end (U z : Int) (k : Nat) (l : List Int) (hs : Hid (takeS U k (l.drop k) = takeS 0 0 l)) (HC : Hid (l.drop k = z :: l.drop (k + 1))) (h1 : ¬ ((k = 9 ∧ 1 < z) ∨ (0 < k ∧ z = 0))) (h2 : z < 128) :
    (U + z % 128 * 2 ^ (7 * k), (k : Int) + 1, 0) = takeS 0 0 l := by
  rw [← hs.out, HC.out]
  simp only [takeS, if_neg h1, if_pos h2]
theorem take_more (U z : Int) (k : Nat) (l : List Int) (hs : Hid (takeS U k (l.drop k) = takeS 0 0 l)) (HC : Hid (l.drop k = z :: l.drop (k + 1))) (h1 : ¬ ((k = 9 ∧ 1 < z) ∨ (0 < k ∧ z = 0))) (h2 : ¬ z < 128) :
    Hid (takeS (U + z % 128 * 2 ^ (7 * k)) (k + 1) (l.drop (k + 1)) = takeS 0 0 l) := by
  show _ = _
  rw [← hs.out, HC.out]
  simp only [takeS, if_neg h1, if_neg h2]

theorem pow_split (k : Nat) (hk : k ≤ 9) : (2 : Int) ^ (7 * k) ≤ 9223372036854775808 := by
  rw [show (2 : Int) ^ (7 * k) = ((2 ^ (7 * k) : Nat) : Int) from by rw [Int.natCast_pow]; rfl]
  have : 2 ^ (7 * k) ≤ 2 ^ 63 := Nat.pow_le_pow_right (by omega) (by omega)
  have e : 2 ^ 63 = 9223372036854775808 := by decide
  omega
theorem or_lo (U z : Int) (k : Nat) (hU0 : 0 ≤ U) (hz0 : 0 ≤ z) : 0 ≤ U + z % 128 * 2 ^ (7 * k) :=
  Int.add_nonneg hU0 (Int.mul_nonneg (by omega) (Int.le_of_lt (Int.pow_pos (by omega))))
theorem or_hi (U z : Int) (k : Nat) (hU1 : U < 2 ^ (7 * k)) (hz0 : 0 ≤ z) : U + z % 128 * 2 ^ (7 * k) < 2 ^ (7 * (k + 1)) := by
  have e : (2 : Int) ^ (7 * (k + 1)) = 128 * 2 ^ (7 * k) := by rw [show 7 * (k + 1) = 7 * k + 7 from by omega, Int.pow_add, Int.mul_comm]; rfl
  rw [e]
  have h1 : z % 128 ≤ 127 := by omega
  have h2 : z % 128 * 2 ^ (7 * k) ≤ 127 * 2 ^ (7 * k) := Int.mul_le_mul_of_nonneg_right h1 (Int.le_of_lt (Int.pow_pos (by omega)))
  omega
theorem or_top (U z : Int) (k : Nat) (hk : k ≤ 9) (hU1 : U < 2 ^ (7 * k)) (hz0 : 0 ≤ z) (h9 : k = 9 → z ≤ 1) : z % 128 * 2 ^ (7 * k) ≤ 9223372036854775808 := by
  by_cases h : k = 9
  · subst h
    have := h9 rfl
    have h1 : z % 128 ≤ 1 := by omega
    have h2 : z % 128 * 2 ^ (7 * 9) ≤ 1 * 2 ^ (7 * 9) := Int.mul_le_mul_of_nonneg_right h1 (by decide)
    simpa using h2
  · have h1 : z % 128 ≤ 128 := by omega
    have h2 : z % 128 * 2 ^ (7 * k) ≤ 128 * 2 ^ (7 * k) := Int.mul_le_mul_of_nonneg_right h1 (Int.le_of_lt (Int.pow_pos (by omega)))
    rw [show (2 : Int) ^ (7 * k) = ((2 ^ (7 * k) : Nat) : Int) from by rw [Int.natCast_pow]; rfl] at h2 ⊢
    have h3 : 2 ^ (7 * k) ≤ 2 ^ 56 := Nat.pow_le_pow_right (by omega) (by omega)
    have h4 : 2 ^ 56 = 72057594037927936 := by decide
    omega
theorem or_step (U z : Int) (k : Nat) (hk : k ≤ 9) (hU0 : 0 ≤ U) (hU1 : U < 2 ^ (7 * k)) (hz0 : 0 ≤ z) (hz1 : z < 256) (h9 : k = 9 → z ≤ 1) :
    bits .or .u64 U (IntKind.u64.wrap (IntKind.u64.wrap (bits .and .u8 z 127) * 2 ^ (7 * k))) = U + z % 128 * 2 ^ (7 * k) := by
  have e1 : bits .and .u8 z 127 = z % 128 := by
    rw [u8_and z 127 hz0 hz1 (by decide) (by decide), show (127 : Int).toNat = 127 from rfl, nat_mask7]
    omega
  have hp : (0 : Int) < 2 ^ (7 * k) := Int.pow_pos (by omega)
  have h5 := or_top U z k hk hU1 hz0 h9
  have h6 : 0 ≤ z % 128 * 2 ^ (7 * k) := Int.mul_nonneg (by omega) (Int.le_of_lt hp)
  have e2 : IntKind.u64.wrap (z % 128) = z % 128 := by rw [IntKind.wrap_u64]; omega
  have e3 : IntKind.u64.wrap (z % 128 * 2 ^ (7 * k)) = z % 128 * 2 ^ (7 * k) := by rw [IntKind.wrap_u64]; exact Int.emod_eq_of_lt h6 (by omega)
  rw [e1, e2, e3]
  have h7 := pow_split k hk
  rw [u64_or _ _ hU0 (by omega) h6 (by omega), Nat.or_comm, nat_join (7 * k)]
  · omega
  · have : z % 128 * 2 ^ (7 * k) = (((z % 128).toNat * 2 ^ (7 * k) : Nat) : Int) := by
      rw [Int.natCast_mul, Int.natCast_pow, Int.toNat_of_nonneg (by omega)]; rfl
    rw [this, Int.toNat_natCast]
    exact Nat.mul_mod_left _ _
  · have : (2 : Int) ^ (7 * k) = ((2 ^ (7 * k) : Nat) : Int) := by rw [Int.natCast_pow]; rfl
    omega
theorem take_any (v : Value) (n : Nat) (l : List Int) (w : World) (hv : Sl w 1 v n (l.map (Value.int .u8))) (hl : ∀ z ∈ l, (Lit.int .u8 z).wf = true) :
    Calls Tryz.prog 46 #[v] w fun e w' => e = ret3 (takeS 0 0 l) ∧ w = w' := by
  obtain ⟨ao, c, rfl, hn, hc, hlen⟩ := hv.shape
  go_enter Tryz.func46, Tryz.ntmps46
  go_wp2_with fail
  go_loop [5, 6] (fun x i => ∃ (k : Nat) (U : Int), k ≤ n ∧ k ≤ 9 ∧ i = .int .i64 k ∧ x = .int .u64 U ∧ 0 ≤ U ∧ U < 2 ^ (7 * k) ∧ Hid (takeS U k (l.drop k) = takeS 0 0 l)) (fun _ i => n - (intOf i).toNat)
  case atStart => exact ⟨0, 0, by omega, by omega, rfl, rfl, by omega, by decide, rfl⟩
  case round =>
    obtain ⟨k, U, hk, hk9, rfl, rfl, hU0, hU1, hs⟩ := hrel
    by_cases hlt : k < n
    · obtain ⟨b, off, z, rfl, hcell, hz0, hz1, HZ⟩ := hv.byte hl hlt
      have hnl : ((n : Int) ≤ k) = False := by simp; omega
      have hcons : l.drop k = z :: l.drop (k + 1) := by
        have : k < l.length := by simp at hlen; omega
        rw [List.drop_eq_getElem_cons this]
        have := HZ.out
        rw [List.getD_eq_getElem?_getD, List.getElem?_eq_getElem (by simp at hlen; omega)] at this
        rw [show l[k] = z from by simpa using this]
      have HC := Lib.hid hcons
      clear hcons hnl
      by_cases h9 : k = 9
      · subst h9
        by_cases hz : 1 < z
        · go_wp2
          go_ret3
          refine ⟨?_, rfl⟩
          rw [← hs.out, HC.out]
          simp [takeS, hz, ret3]
        · by_cases hz0' : z = 0
          · subst hz0'
            go_wp2
            go_ret3
            refine ⟨?_, rfl⟩
            rw [← hs.out, HC.out]
            simp [takeS, ret3]
          · have hz1' : (z == 0) = false := by simp [hz0']
            go_wp2
            go_ret3
            refine ⟨ret3_mk (or_step U z 9 (by omega) hU0 hU1 hz0 hz1 (by omega)) rfl rfl (take_end U z 9 l hs HC (by omega) (by omega)), rfl⟩
      · have h9' : ((k : Int) == 9) = false := by simp; omega
        by_cases hk0 : 0 < k
        · by_cases hz0' : z = 0
          · subst hz0'
            go_wp2
            go_ret3
            refine ⟨?_, rfl⟩
            rw [← hs.out, HC.out]
            simp [takeS, ret3, hk0]
          · have hz1' : (z == 0) = false := by simp [hz0']
            by_cases hz8 : z < 128
            · go_wp2
              go_ret3
              refine ⟨ret3_mk ?_ rfl rfl (take_end U z k l hs HC (by omega) (by omega)), rfl⟩
              exact or_step U z k hk9 hU0 hU1 hz0 hz1 (by omega)
            · go_wp2
              go_round
              case rel => exact ⟨k + 1, _, by omega, by omega, by go_num, rfl, by rw [or_step U z k hk9 hU0 hU1 hz0 hz1 (by omega)]; exact or_lo U z k hU0 hz0, by rw [or_step U z k hk9 hU0 hU1 hz0 hz1 (by omega)]; exact or_hi U z k hU1 hz0, by rw [or_step U z k hk9 hU0 hU1 hz0 hz1 (by omega)]; exact take_more U z k l hs HC (by omega) (by omega)⟩
              case measure => simp [intOf]; omega
        · obtain rfl : k = 0 := by omega
          have hcell0 : w.cell? ⟨b, off, none⟩ = some (.int .u8 z) := by simpa using hcell
          have HO : Hid (bits .or .u64 U (IntKind.u64.wrap (IntKind.u64.wrap (bits .and .u8 z 127))) = U + z % 128 * 2 ^ (7 * 0)) := by
            have := or_step U z 0 (by omega) hU0 hU1 hz0 hz1 (by omega)
            rw [show (2 : Int) ^ (7 * 0) = 1 from rfl, Int.mul_one, Int.mul_one] at this
            rw [show (2 : Int) ^ (7 * 0) = 1 from rfl, Int.mul_one]
            exact this
          by_cases hz8 : z < 128
          · go_wp2
            go_ret3
            refine ⟨ret3_mk HO.out rfl rfl (take_end U z 0 l hs HC (by omega) (by omega)), rfl⟩
          · go_wp2
            go_round
            case rel => exact ⟨1, _, by omega, by omega, rfl, rfl, by rw [HO.out]; exact or_lo U z 0 hU0 hz0, by rw [HO.out]; exact or_hi U z 0 hU1 hz0, by rw [HO.out]; exact take_more U z 0 l hs HC (by omega) (by omega)⟩
            case measure => simp [intOf]; omega
    · obtain rfl : k = n := by omega
      have hnil : l.drop k = [] := List.drop_eq_nil_of_le (by simp at hlen; omega)
      have HN := Lib.hid hnil
      clear hnil
      go_wp2
      go_ret3
      refine ⟨?_, rfl⟩
      rw [← hs.out, HN.out]
      rfl

theorem plus_step (U z B : Int) (k : Nat) (hB : Hid (B = 2 ^ (7 * k))) (hk : k ≤ 9) (hU0 : 0 ≤ U) (hU1 : U < 2 ^ (7 * k)) (hz0 : 0 ≤ z) (hz1 : z < 256) (h9 : k = 9 → z ≤ 1) :
    IntKind.u64.wrap (U + IntKind.u64.wrap (z % 128 * B)) = U + z % 128 * 2 ^ (7 * k) := by
  rw [hB.out]
  have h5 := or_top U z k hk hU1 hz0 h9
  have h6 : 0 ≤ z % 128 * 2 ^ (7 * k) := Int.mul_nonneg (by omega) (Int.le_of_lt (Int.pow_pos (by omega)))
  have h7 := pow_split k hk
  generalize z % 128 * 2 ^ (7 * k) = y at *
  rw [IntKind.wrap_u64, IntKind.wrap_u64]
  omega
theorem by_step (B : Int) (k : Nat) (hB : Hid (B = 2 ^ (7 * k))) (hk : k ≤ 8) : IntKind.u64.wrap (B * 128) = 2 ^ (7 * (k + 1)) := by
  have e : (2 : Int) ^ (7 * (k + 1)) = 2 ^ (7 * k) * 128 := by rw [show 7 * (k + 1) = 7 * k + 7 from by omega, Int.pow_add]; rfl
  have h1 := pow_split (k + 1) (by omega)
  have h2 : (0 : Int) < 2 ^ (7 * k) := Int.pow_pos (by omega)
  rw [hB.out, ← e, IntKind.wrap_u64]
  rw [e] at h1 ⊢
  omega

theorem numof_any (v : Value) (n : Nat) (l : List Int) (w : World) (hv : Sl w 1 v n (l.map (Value.int .u8))) (hl : ∀ z ∈ l, (Lit.int .u8 z).wf = true) :
    Calls Tryz.prog 49 #[v] w fun e w' => e = ret3 (takeS 0 0 l) ∧ w = w' := by
  obtain ⟨ao, c, rfl, hn, hc, hlen⟩ := hv.shape
  go_enter Tryz.func49, Tryz.ntmps49
  go_wp2_with fail
  go_loop [5, 6, 10] (fun x y i => ∃ (k : Nat) (U B : Int), k ≤ n ∧ k ≤ 9 ∧ i = .int .i64 k ∧ x = .int .u64 U ∧ y = .int .u64 B ∧ 0 ≤ U ∧ U < 2 ^ (7 * k) ∧ Hid (B = 2 ^ (7 * k)) ∧ Hid (takeS U k (l.drop k) = takeS 0 0 l)) (fun _ _ i => n - (intOf i).toNat)
  case atStart => exact ⟨0, 0, 1, by omega, by omega, rfl, rfl, rfl, by omega, by decide, rfl, rfl⟩
  case round =>
    obtain ⟨k, U, B, hk, hk9, rfl, rfl, rfl, hU0, hU1, hB, hs⟩ := hrel
    by_cases hlt : k < n
    · obtain ⟨b, off, z, rfl, hcell, hz0, hz1, HZ⟩ := hv.byte hl hlt
      have hcons : l.drop k = z :: l.drop (k + 1) := by
        have : k < l.length := by simp at hlen; omega
        rw [List.drop_eq_getElem_cons this]
        have := HZ.out
        rw [List.getD_eq_getElem?_getD, List.getElem?_eq_getElem (by simp at hlen; omega)] at this
        rw [show l[k] = z from by simpa using this]
      have HC := Lib.hid hcons
      clear hcons
      by_cases h9 : k = 9
      · subst h9
        by_cases hz : 1 < z
        · go_wp2
          go_ret3
          refine ⟨?_, rfl⟩
          rw [← hs.out, HC.out]
          simp [takeS, hz, ret3]
        · by_cases hz0' : z = 0
          · subst hz0'
            go_wp2
            go_ret3
            refine ⟨?_, rfl⟩
            rw [← hs.out, HC.out]
            simp [takeS, ret3]
          · have hz1' : (z == 0) = false := by simp [hz0']
            go_wp2
            go_ret3
            exact ⟨ret3_mk (plus_step U z B 9 hB (by omega) hU0 hU1 hz0 hz1 (by omega)) rfl rfl (take_end U z 9 l hs HC (by omega) (by omega)), rfl⟩
      · have h9' : ((k : Int) == 9) = false := by simp; omega
        by_cases hk0 : 0 < k
        · by_cases hz0' : z = 0
          · subst hz0'
            go_wp2
            go_ret3
            refine ⟨?_, rfl⟩
            rw [← hs.out, HC.out]
            simp [takeS, ret3, hk0]
          · have hz1' : (z == 0) = false := by simp [hz0']
            by_cases hz8 : z < 128
            · go_wp2
              go_ret3
              exact ⟨ret3_mk (plus_step U z B k hB (by omega) hU0 hU1 hz0 hz1 (by omega)) rfl rfl (take_end U z k l hs HC (by omega) (by omega)), rfl⟩
            · go_wp2
              go_round
              case rel => exact ⟨k + 1, _, _, by omega, by omega, by go_num, rfl, rfl, by rw [plus_step U z B k hB hk9 hU0 hU1 hz0 hz1 (by omega)]; exact or_lo U z k hU0 hz0, by rw [plus_step U z B k hB hk9 hU0 hU1 hz0 hz1 (by omega)]; exact or_hi U z k hU1 hz0, by_step B k hB (by omega), by rw [plus_step U z B k hB hk9 hU0 hU1 hz0 hz1 (by omega)]; exact take_more U z k l hs HC (by omega) (by omega)⟩
              case measure => simp [intOf]; omega
        · obtain rfl : k = 0 := by omega
          have hcell0 : w.cell? ⟨b, off, none⟩ = some (.int .u8 z) := by simpa using hcell
          by_cases hz8 : z < 128
          · go_wp2
            go_ret3
            exact ⟨ret3_mk (plus_step U z B 0 hB (by omega) hU0 hU1 hz0 hz1 (by omega)) rfl rfl (take_end U z 0 l hs HC (by omega) (by omega)), rfl⟩
          · go_wp2
            go_round
            case rel => exact ⟨1, _, _, by omega, by omega, rfl, rfl, rfl, by rw [plus_step U z B 0 hB (by omega) hU0 hU1 hz0 hz1 (by omega)]; exact or_lo U z 0 hU0 hz0, by rw [plus_step U z B 0 hB (by omega) hU0 hU1 hz0 hz1 (by omega)]; exact or_hi U z 0 hU1 hz0, by_step B 0 hB (by omega), by rw [plus_step U z B 0 hB (by omega) hU0 hU1 hz0 hz1 (by omega)]; exact take_more U z 0 l hs HC (by omega) (by omega)⟩
            case measure => simp [intOf]; omega
    · obtain rfl : k = n := by omega
      have hnil : l.drop k = [] := List.drop_eq_nil_of_le (by simp at hlen; omega)
      have HN := Lib.hid hnil
      clear hnil
      go_wp2
      go_ret3
      refine ⟨?_, rfl⟩
      rw [← hs.out, HN.out]
      rfl
end Go.Proofs.YtlfhcjhbnakamaaGreatDoor.Bits
/-
  Slices of bytes: their elements.
-/
namespace Go.Proofs.YtlfhcjhbnakamaaGreatDoor.Bits
open Go.RowKit Go.Gh Go.WideShapes
set_option linter.unusedVariables false

theorem infoU8 : (Tryz.prog.info? 5).map (fun i => (i.zero, i.size, i.bytes)) = some (some (.int .u8 0), 1, 1) := by kernel_rfl

theorem elU8 : Elem Tryz.prog 45 5 1 1 := elem_of Tryz.underlying45 infoU8 rfl (by decide)
theorem ints_one (k : IntKind) (l : List Int) : ∀ u ∈ l.map (Value.int k), u.oneCell' = true := by
  intro u hu; simp at hu; obtain ⟨z, _, rfl⟩ := hu; rfl
end Go.Proofs.YtlfhcjhbnakamaaGreatDoor.Bits
/-
  The walks of bits.Put and of the reference to it, and of bytes.Equal.
-/
namespace Go.Proofs.YtlfhcjhbnakamaaGreatDoor.Bits
open Go.RowKit Go.Gh Go.WideShapes
set_option linter.unusedVariables false

def putI : Nat → Int → List Int
  | 0, u => [u]
  | f + 1, u => if u < 128 then [u] else (u % 128 + 128) :: putI f (u / 128)
theorem putI_wf : ∀ (f : Nat) (u : Int), 0 ≤ u → u < 128 ^ (f + 1) → ∀ z ∈ putI f u, (Lit.int .u8 z).wf = true
  | 0, u, h0, h1, z, hz => by
    simp [putI] at hz
    subst hz
    simp [Lit.wf, IntKind.min, IntKind.max, IntKind.signed, IntKind.bits] at *
    omega
  | f + 1, u, h0, h1, z, hz => by
    simp only [putI] at hz
    split at hz
    · simp at hz
      subst hz
      simp [Lit.wf, IntKind.min, IntKind.max, IntKind.signed, IntKind.bits] at *
      omega
    · simp at hz
      rcases hz with rfl | hz
      · simp [Lit.wf, IntKind.min, IntKind.max, IntKind.signed, IntKind.bits]
        omega
      · refine putI_wf f (u / 128) (by omega) ?_ z hz
        rw [Int.pow_succ] at h1
        exact Int.ediv_lt_of_lt_mul (by omega) h1
theorem putI_len : ∀ (f : Nat) (u : Int), 0 < (putI f u).length ∧ (putI f u).length ≤ f + 1
  | 0, u => by simp [putI]
  | f + 1, u => by
    have := putI_len f (u / 128)
    simp only [putI]
    split <;> simp <;> omega
theorem or128 (u : Int) : bits .or .u8 (IntKind.u8.wrap u) 128 = u % 128 + 128 := by
  rw [IntKind.wrap_u8', u8_or _ _ (by omega) (by omega) (by decide) (by decide)]
  obtain ⟨n, hn⟩ := Int.eq_ofNat_of_zero_le (show 0 ≤ u % 256 by omega)
  rw [hn, Int.toNat_natCast, show (128 : Int).toNat = 2 ^ 7 from rfl]
  have e : n ||| 2 ^ 7 = 2 ^ 7 ||| (n % 2 ^ 7) := by
    apply Nat.eq_of_testBit_eq
    intro i
    simp only [Nat.testBit_or, Nat.testBit_two_pow, Nat.testBit_mod_two_pow]
    have hlt : n < 2 ^ 8 := by omega
    by_cases h7 : i = 7
    · subst h7; simp
    · by_cases h8 : i < 7
      · simp [h8, Bool.or_comm]
      · have : n.testBit i = false := Nat.testBit_lt_two_pow (Nat.lt_of_lt_of_le hlt (Nat.pow_le_pow_right (by omega) (by omega)))
        simp [this]
  rw [e, nat_join 7 _ _ (by decide) (Nat.mod_lt _ (by decide))]
  omega

theorem put_step (U u : Int) (k : Nat) (acc : List Int) (hk : k < 9) (h : Hid (acc ++ putI (9 - k) U = putI 9 u)) (h128 : 128 ≤ U) : Hid ((acc ++ [U % 128 + 128]) ++ putI (9 - (k + 1)) (U / 128) = putI 9 u) := by
  show _ = _
  rw [← h.out, List.append_assoc]
  congr 1
  rw [show 9 - k = (9 - (k + 1)) + 1 from by omega, putI, if_neg (by omega)]
  rfl
theorem put_end (U u : Int) (k : Nat) (acc : List Int) (hk : k ≤ 9) (h : Hid (acc ++ putI (9 - k) U = putI 9 u)) (h128 : U < 128) : acc ++ [U] = putI 9 u := by
  rw [← h.out]
  congr 1
  by_cases hk9 : k = 9
  · subst hk9; rfl
  · rw [show 9 - k = (9 - (k + 1)) + 1 from by omega, putI, if_pos (by omega)]

theorem or128' (u : Int) : bits .or .u8 (u % 256) 128 = u % 128 + 128 := by rw [← IntKind.wrap_u8']; exact or128 u
theorem put_bd (U : Int) (k : Nat) (hk : k < 9) (h : U < 128 ^ (9 - k) * 2) : U / 128 < 128 ^ (9 - (k + 1)) * 2 := by
  rw [show 9 - k = (9 - (k + 1)) + 1 from by omega, Int.pow_succ] at h
  exact Int.ediv_lt_of_lt_mul (by omega) (by omega)
theorem lt_fuel {u : Int} (h : u < 18446744073709551616) : u < 128 ^ (9 + 1) := by
  rw [show (128 : Int) ^ (9 + 1) = 1180591620717411303424 from by decide]
  omega
theorem put_any (u : Int) (h0 : 0 ≤ u) (h1 : u < 18446744073709551616) (w : World) :
    Calls Tryz.prog 44 #[.int .u64 u] w fun e w' => ∃ v, e = .returned v ∧ w'.ownsRow w.heap.size 5 1 v (putI 9 u).length ((putI 9 u).map (Value.int .u8)) ∧ Below w.heap.size w w' := by
  go_enter Tryz.func44, Tryz.ntmps44
  go_wp2_with fail
  go_loopw [0, 3] (fun x v wr => ∃ (k : Nat) (U : Int) (acc : List Int), x = .int .u64 U ∧ k ≤ 9 ∧ 0 ≤ U ∧ U < 128 ^ (9 - k) * 2 ∧ Hid (acc.length = k) ∧ wr.ownsRow w.heap.size 5 1 v acc.length (acc.map (Value.int .u8)) ∧ Below w.heap.size w wr ∧ Hid (acc ++ putI (9 - k) U = putI 9 u))
    (fun x _ _ => (intOf x).toNat)
  case atStart => exact ⟨0, u, [], rfl, by omega, h0, h1, rfl, World.ownsRow_nil _ _ _ _, Below.refl _ _, rfl⟩
  case round =>
    obtain ⟨k, U, acc, rfl, hk, hU0, hU1, hacc, hown, hbel, hs⟩ := hrel
    have hsz := hbel.size
    by_cases h128 : 128 ≤ U
    · have hk9 : k < 9 := by
        rcases Nat.lt_or_ge k 9 with h | h
        · exact h
        · obtain rfl : k = 9 := by omega
          simp at hU1; omega
      have hla : acc.length ≤ 9 := by have := hacc.out; omega
      go_wp2_with (at_builtin; refine append1 [_] elU8 rfl _ _ rfl hown hbel hsz rfl rfl rfl (one_all _ rfl) ?c4 ?c5 ?_)
      case c4 => omega
      case c5 => omega
      intro v' w1 hown' hbel' _
      have HS := put_step U u k acc hk9 hs h128
      clear hown hbel hs
      go_wp2
      go_roundw
      case rel => exact ⟨k + 1, U / 128, acc ++ [U % 128 + 128], rfl, by omega, by omega, put_bd U k hk9 hU1, by show _ = _; simp [hacc.out], by simpa [or128'] using hown', hbel', HS⟩
      case measure => simp [intOf]; omega
    · have hla : acc.length ≤ 9 := by have := hacc.out; omega
      go_wp2_with (at_builtin; refine append1 [_] elU8 rfl _ _ rfl hown hbel hsz rfl rfl rfl (one_all _ rfl) ?c4 ?c5 ?_)
      case c4 => omega
      case c5 => omega
      intro v' w1 hown' hbel' _
      have HE := Lib.hid (put_end U u k acc hk hs (by omega))
      clear hown hbel hs
      go_wp2
      go_ret
      refine ⟨v', rfl, ?_, hbel'⟩
      rw [← HE.out]
      have e1 : IntKind.u8.wrap U = U := by rw [IntKind.wrap_u8']; omega
      simpa [e1] using hown'

theorem putI_big (f : Nat) (u : Int) (h : 128 ≤ u) : putI (f + 1) u = (u % 128 + 128) :: putI f (u / 128) := by
  rw [putI, if_neg (by omega)]
theorem putI_small (f : Nat) (u : Int) (h : u < 128) : putI f u = [u] := by
  cases f with
  | zero => rfl
  | succ f => rw [putI, if_pos h]
theorem bytesof_any : ∀ (f : Nat) (u : Int) (h0 : 0 ≤ u) (h1 : u < 18446744073709551616) (hf : f ≤ 9) (h2 : u < 128 ^ (f + 1)) (w : World),
    Calls Tryz.prog 52 #[.int .u64 u] w fun e w' => ∃ v, e = .returned v ∧ w'.ownsRow w.heap.size 5 1 v (putI f u).length ((putI f u).map (Value.int .u8)) ∧ Below w.heap.size w w' := by
  intro f
  induction f with
  | zero =>
    intro u h0 h1 hf h2 w
    have h128 : u < 128 := by simpa using h2
    go_enter Tryz.func52, Tryz.ntmps52
    go_wp2_with fail
    go_ret
    rw [putI_small _ _ h128]
    exact ⟨_, rfl, own_build w [_] (Nat.le_refl _) rfl (by decide), (Below.refl _ _).alloc (Nat.le_refl _) _⟩
  | succ f ih =>
    intro u h0 h1 hf h2 w
    have HI := Lib.hid ih
    clear ih
    by_cases h128 : u < 128
    · go_enter Tryz.func52, Tryz.ntmps52
      go_wp2_with fail
      go_ret
      rw [putI_small _ _ h128]
      exact ⟨_, rfl, own_build w [_] (Nat.le_refl _) rfl (by decide), (Below.refl _ _).alloc (Nat.le_refl _) _⟩
    · have hq : u / 128 < 128 ^ (f + 1) := by
        rw [Int.pow_succ] at h2
        exact Int.ediv_lt_of_lt_mul (by omega) h2
      have HQ := Lib.hid hq
      clear hq h2
      have hl := putI_len f (u / 128)
      have hu8 : 0 ≤ u % 128 := by omega
      have hu9 : u % 128 < 128 := by omega
      have hu10 : 0 ≤ u % 128 + 128 := by omega
      go_enter Tryz.func52, Tryz.ntmps52
      go_wp2_with fail
      refine (HI.out (u / 128) (by omega) (by omega) (by omega) HQ.out _).mono ?_
      rintro e w' ⟨v, rfl, hown, hbel⟩
      obtain ⟨g, cap, rfl, hg1, hg2, hc1, hc2, hcells⟩ := own_some hown hl.1
      have ho1 : (w.alloc (.cells [Value.int .u8 (u % 128 + 128)].toArray 5)).ownsRow w.heap.size 5 1 (.slice (some ⟨w.heap.size, 0, none⟩) 1 1) 1 [Value.int .u8 (u % 128 + 128)] := own_build w _ (Nat.le_refl _) rfl (by decide)
      have ho2 := own_below ho1 hbel
      have hb2 : Below w.heap.size w w' := ((Below.refl _ _).alloc (Nat.le_refl _) _).trans (hbel.mono (by simp))
      have hsz := hb2.size
      have HP := Lib.hid (putI_big f u (by omega))
      clear HI HQ
      generalize hd : putI f (u / 128) = d at *
      clear hd ho1 hown
      go_wp2_with (at_builtin; refine appendN elU8 rfl _ _ rfl ho2 hb2 hsz rfl rfl (by rw [List.length_map, Nat.mul_one]) (by simpa using hcells) (ints_one _ _) ?c4 ?c5 ?_)
      case c4 => omega
      case c5 => omega
      intro v' w1 hown' hbel' _
      go_wp2
      go_ret
      refine ⟨v', rfl, ?_, hbel'⟩
      rw [HP.out, List.length_cons, Nat.add_comm]
      exact hown'

theorem equal_any (v v' : Value) (n n' : Nat) (l l' : List Int) (w : World) (hv : Sl w 1 v n (l.map (Value.int .u8))) (hv' : Sl w 1 v' n' (l'.map (Value.int .u8))) (hl : ∀ z ∈ l, (Lit.int .u8 z).wf = true) (hl' : ∀ z ∈ l', (Lit.int .u8 z).wf = true) :
    Calls Tryz.prog 22 #[v, v'] w fun e w' => e = .returned (.bool (decide (l = l'))) ∧ w = w' := by
  have c1 := run_bytes (dst := 9) Tryz.underlying45 Tryz.underlying5 Tryz.underlying9 hv
  have c2 := run_bytes (dst := 9) Tryz.underlying45 Tryz.underlying5 Tryz.underlying9 hv'
  have HI := Lib.hid (bstr_inj hl hl')
  have HI2 : Hid (l = l' → bstr l = bstr l') := fun h => by rw [h]
  generalize bstr l = s at *
  generalize bstr l' = s' at *
  go_enter Tryz.func22, Tryz.ntmps22
  go_wp2_with fail
  go_ret
  refine ⟨ret_bool ?_, rfl⟩
  rw [ByteArray.toList_eq, ByteArray.toList_eq]
  by_cases h : l = l'
  · rw [HI2.out h]; simp [h]
  · have h2 : s.data.toList ≠ s'.data.toList := fun h' => h (HI.out (bytes_inj h'))
    rw [beq_eq_false_iff_ne.2 h2, decide_eq_false h]
end Go.Proofs.YtlfhcjhbnakamaaGreatDoor.Bits
/-
  Numbers off the front of bytes are as they would be put: as plain functions; Zig and Zag.
-/
namespace Go.Proofs.YtlfhcjhbnakamaaGreatDoor.Tk
open Go.RowKit Go.Gh Go.Proofs.YtlfhcjhbnakamaaGreatDoor.Bits
set_option linter.unusedVariables false
set_option linter.unusedSimpArgs false
def BytesL (l : List Int) : Prop := ∀ z ∈ l, 0 ≤ z ∧ z < 256
/-- A number that was taken was put. -/
theorem take_put : ∀ (r : List Int) (u : Int) (i : Nat) (n k : Int), BytesL r → i ≤ 9 → takeS u i r = (n, k, 0) →
    ∃ v : Int, 0 ≤ v ∧ (0 < i → 0 < v) ∧ n = u + v * 2 ^ (7 * i) ∧ k = (i : Int) + (putI (9 - i) v).length ∧ r.take (putI (9 - i) v).length = putI (9 - i) v
  | [], u, i, n, k, _, _, h => by
    rw [takeS] at h
    have := congrArg (fun r : Int × Int × Int => r.2.2) h
    simp at this
  | b :: rest, u, i, n, k, hb, hi, h => by
    rw [takeS] at h
    have hb0 := hb b (by simp)
    split at h
    · have := congrArg (fun r : Int × Int × Int => r.2.2) h
      simp at this
    · rename_i hbad
      have hnb := not_or.1 hbad
      split at h
      · rename_i hsm
        have e1 : u + b % 128 * 2 ^ (7 * i) = n := congrArg (fun r : Int × Int × Int => r.1) h
        have e2 : (i : Int) + 1 = k := congrArg (fun r : Int × Int × Int => r.2.1) h
        have hm : b % 128 = b := by omega
        rw [hm] at e1
        refine ⟨b, hb0.1, fun hpos => ?_, e1.symm, ?_, ?_⟩
        · have : ¬ b = 0 := fun h0 => hnb.2 ⟨hpos, h0⟩
          omega
        · rw [putI_small _ _ hsm, ← e2]; rfl
        · rw [putI_small _ _ hsm]; rfl
      · rename_i hbig
        have hi9 : i ≠ 9 := fun h9 => hnb.1 ⟨h9, by omega⟩
        obtain ⟨v, h1, h2, h3, h4, h5⟩ := take_put rest (u + b % 128 * 2 ^ (7 * i)) (i + 1) n k (fun z hz => hb z (by simp [hz])) (by omega) h
        have hv := h2 (by omega)
        have hp : putI (9 - i) (b % 128 + 128 * v) = b :: putI (9 - (i + 1)) v := by
          rw [show 9 - i = (9 - (i + 1)) + 1 from by omega, putI_big _ _ (by omega)]
          have ea : (b % 128 + 128 * v) % 128 + 128 = b := by omega
          have eb : (b % 128 + 128 * v) / 128 = v := by omega
          rw [ea, eb]
        refine ⟨b % 128 + 128 * v, by omega, fun _ => by omega, ?_, ?_, ?_⟩
        · rw [h3, show 7 * (i + 1) = 7 * i + 7 from by omega, Int.pow_add, Int.add_mul]
          have e7 : (2 : Int) ^ 7 = 128 := by decide
          rw [e7, Int.add_assoc]
          congr 1
          congr 1
          rw [Int.mul_comm (2 ^ (7 * i)) 128, ← Int.mul_assoc, Int.mul_comm v 128]
        · rw [hp, h4]
          simp only [List.length_cons]
          omega
        · rw [hp]
          simp only [List.length_cons, List.take_succ_cons, h5]
theorem take_canon {b : List Int} {n k : Int} (hb : BytesL b) (h : takeS 0 0 b = (n, k, 0)) : 0 ≤ n ∧ k = (putI 9 n).length ∧ b.take (putI 9 n).length = putI 9 n := by
  obtain ⟨v, h1, _, h3, h4, h5⟩ := take_put b 0 0 n k hb (by omega) h
  have e : n = v := by rw [h3]; simp
  subst e
  exact ⟨h1, by rw [h4]; simp, h5⟩
theorem putI_pos (f : Nat) (u : Int) : 0 < (putI f u).length := (putI_len f u).1
end Go.Proofs.YtlfhcjhbnakamaaGreatDoor.Tk
/-
  The walks of Zig and Zag, and of the references to them.
-/
namespace Go.Proofs.YtlfhcjhbnakamaaGreatDoor.Bits
open Go.RowKit Go.Gh
set_option linter.unusedVariables false
theorem zig_any (n : Int) (h0 : -9223372036854775808 ≤ n) (h1 : n < 9223372036854775808) (w : World) :
    Calls Tryz.prog 45 #[.int .i64 n] w fun e w' => e = .returned (.int .u64 (zigI n)) ∧ w = w' := by
  by_cases hn : n < 0
  · have e : zigI n = -2 * n - 1 := if_pos hn
    rw [e]; clear e
    go_enter Tryz.func45, Tryz.ntmps45
    go_wp2
    go_ret
    refine ⟨ret_int ?_, rfl⟩
    have e1 : IntKind.u64.wrap (IntKind.u64.wrap n * 2) = 2 * n + 18446744073709551616 := by rw [IntKind.wrap_u64, IntKind.wrap_u64]; omega
    have e2 : IntKind.u64.wrap (n / 9223372036854775808) = 18446744073709551615 := by rw [IntKind.wrap_u64]; omega
    rw [e1, e2, u64_xor_ones _ (by omega) (by omega)]
    omega
  · have e : zigI n = 2 * n := if_neg hn
    rw [e]; clear e
    have h0 : 0 ≤ n := by omega
    go_enter Tryz.func45, Tryz.ntmps45
    go_wp2
    go_ret
    refine ⟨ret_int ?_, rfl⟩
    have e2 : n / 9223372036854775808 = 0 := by omega
    rw [e2, u64_xor_zero _ (by omega) (by omega)]
    omega

theorem zigof_any (n : Int) (h0 : -9223372036854775808 ≤ n) (h1 : n < 9223372036854775808) (w : World) :
    Calls Tryz.prog 53 #[.int .i64 n] w fun e w' => e = .returned (.int .u64 (zigI n)) ∧ w = w' := by
  by_cases hn : n < 0
  · have e : zigI n = -2 * n - 1 := if_pos hn
    rw [e]; clear e
    go_enter Tryz.func53, Tryz.ntmps53
    go_wp2
    go_ret
    refine ⟨ret_int ?_, rfl⟩
    go_arith
  · have e : zigI n = 2 * n := if_neg hn
    rw [e]; clear e
    have h0 : 0 ≤ n := by omega
    go_enter Tryz.func53, Tryz.ntmps53
    go_wp2
    go_ret
    refine ⟨ret_int ?_, rfl⟩
    go_arith

theorem zag_any (u : Int) (h0 : 0 ≤ u) (h1 : u < 18446744073709551616) (w : World) :
    Calls Tryz.prog 47 #[.int .u64 u] w fun e w' => e = .returned (.int .i64 (zagI u)) ∧ w = w' := by
  go_enter Tryz.func47, Tryz.ntmps47
  go_wp2
  go_ret
  refine ⟨ret_int ?_, rfl⟩
  rw [Go.Gh.and_one u h0 h1]
  unfold zagI
  have w1 : wrap64 (u % 2) = u % 2 := by go_arith
  by_cases ho : u % 2 = 1
  · rw [if_pos ho, w1, ho]
    rw [show wrap64 (-1) = -1 from by go_arith]
    exact i64_xor_ones (u / 2) (by omega) (by omega)
  · have ho : u % 2 = 0 := by omega
    rw [if_neg (by omega), w1, ho]
    rw [show wrap64 (-0) = 0 from by go_arith]
    exact i64_xor_zero (u / 2) (by omega) (by omega)

theorem zagof_any (u : Int) (h0 : 0 ≤ u) (h1 : u < 18446744073709551616) (w : World) :
    Calls Tryz.prog 50 #[.int .u64 u] w fun e w' => e = .returned (.int .i64 (zagI u)) ∧ w = w' := by
  by_cases ho : u % 2 = 1
  · have e : zagI u = -(u / 2) - 1 := if_pos ho
    rw [e]; clear e
    go_enter Tryz.func50, Tryz.ntmps50
    go_wp2
    go_ret
    refine ⟨ret_int ?_, rfl⟩
    go_arith
  · have e : zagI u = u / 2 := if_neg ho
    rw [e]; clear e
    go_enter Tryz.func50, Tryz.ntmps50
    go_wp2
    go_ret
    refine ⟨ret_int ?_, rfl⟩
    go_arith

end Go.Proofs.YtlfhcjhbnakamaaGreatDoor.Bits
