/-
  Labels: the walk of unquoted.
-/
import Derived.Test.YtlfhcjhbnakamaaGreatDoorSg4
import Derived.Test.YtlfhcjhbnakamaaGreatDoorSg7
import Derived.Deep.QuietTactic
import Derived.BigQuiet
import Derived.Shelf.Lay
import Derived.Shelf.LaySoft
import Derived.Shelf.LaysM
import Derived.Shelf.Small.Utf8
import Derived.Shelf.Small.Wraps
import Derived.Shelf.Strings.Runes
import Derived.Shelf.Strings.IndexAny
import Derived.Shelf.Strings.AsciiSet
import Derived.Shelf.Strings.IndexAnyAll
import Derived.Shelf.Small.Strs
import Derived.Shelf.Strings.Search1
import Derived.Test.YtlfhcjhbnakamaaGreatDoorProg
namespace Go.Proofs.YtlfhcjhbnakamaaGreatDoor.Lab
open Go.RowKit Go.Gh
set_option linter.unusedVariables false
set_option linter.unusedSimpArgs false
def bI (l : By) : List Int := l.map fun b => (b.toNat : Int)
theorem bstr_bI (l : By) : bstr (bI l) = mkS l := by
  unfold bstr bI mkS
  rw [List.map_map]
  congr 2
  conv => rhs; rw [← List.map_id l]
  refine List.map_congr_left fun b _ => ?_
  simp
theorem bI_snoc (l : By) (b : UInt8) : (bI (l ++ [b])).map (Value.int .u8) = (bI l).map (Value.int .u8) ++ [.int .u8 (b.toNat : Int)] := by
  unfold bI
  rw [List.map_append, List.map_append]
  rfl
theorem bI_snocE (l : By) (b : UInt8) (m : Nat) (h : b.toNat = m) : (bI (l ++ [b])).map (Value.int .u8) = (bI l).map (Value.int .u8) ++ [.int .u8 (m : Int)] := by
  rw [bI_snoc, h]
def unV (r : Option (By × By)) : Value := match r with
  | none => .tuple #[.string (mkS []), .string (mkS []), .bool false]
  | some (v, t) => .tuple #[.string (mkS v), .string (mkS t), .bool true]
theorem drop_s {l : By} {k : Nat} {d : UInt8} (h : l[k]? = some d) : l.drop k = d :: l.drop (k + 1) := by
  obtain ⟨h1, h2⟩ := List.getElem?_eq_some_iff.1 h
  rw [List.drop_eq_getElem_cons h1, h2]
set_option maxHeartbeats 8000000 in
set_option maxRecDepth 100000 in
theorem unq_any (l : By) (w : World) (hsz : l.length ≤ 70368744177664) : Calls Tryz.prog 72 #[.string (mkS l)] w fun e w' => e = .returned (unV (unq l [])) ∧ Below w.heap.size w w' := by
  have hml := mkS_size l
  have HG := Lib.hid (mkS_get l)
  have HX := Lib.hid (fun a => mkS_ext l a l.length)
  obtain ⟨R, hR⟩ : ∃ R, unq l [] = R := ⟨_, rfl⟩
  rw [hR]
  have HR := Lib.hid hR
  clear hR
  generalize mkS l = S at hml HG HX ⊢
  obtain ⟨n, hn⟩ : ∃ n, S.size = n := ⟨_, rfl⟩
  rw [hn] at hml
  have HL := Lib.hid hml.symm
  have hn63 : n ≤ 70368744177664 := by omega
  clear hml
  go_enter Tryz.func72, Tryz.ntmps72
  go_wp2_with fail
  go_loopw [5, 6] (fun o i wr => ∃ (k q : Nat) (acc : By), k ≤ n ∧ q ≤ k ∧ i = .int .i64 k ∧ Hid (acc.length = q) ∧ Hid (wr.ownsRow w.heap.size 5 1 o q ((bI acc).map (Value.int .u8))) ∧ Hid (unq (l.drop k) acc = R) ∧ Below w.heap.size w wr) (fun _ i _ => n - (intOf i).toNat)
  case atStart => exact ⟨0, 0, [], Nat.zero_le _, Nat.le_refl _, rfl, Lib.hid rfl, Lib.hid (World.ownsRow_nil _ _ _ _), Lib.hid (by rw [List.drop_zero]; exact HR.out), Below.refl _ _⟩
  case round =>
    obtain ⟨k, q, acc, hk, hqk, rfl, HQ, HO, HU, hbel⟩ := hrel
    have hws := hbel.size
    obtain ⟨uo, uc, rfl, -, -, -⟩ := own_shape HO.out
    by_cases hlt : k < n
    case neg =>
      obtain rfl : k = n := by omega
      have HRR : Hid (R = none) := Lib.hid (by rw [← HU.out, List.drop_of_length_le (Nat.le_of_eq HL.out)]; rfl)
      go_wp2_with fail
      go_ret3
      rw [HRR.out]
      exact ⟨rfl, hbel⟩
    have hlk : k < l.length := by rw [HL.out]; exact hlt
    have hks : k < S.size := by rw [hn]; exact hlt
    obtain ⟨d, hd⟩ : ∃ d, l[k]? = some d := ⟨_, List.getElem?_eq_getElem hlk⟩
    obtain ⟨m, hm⟩ : ∃ m, d.toNat = m := ⟨_, rfl⟩
    have hgk : (S[k]'hks).toNat = m := by
      rw [HG.out k hks hlk, (List.getElem?_eq_some_iff.1 hd).2]
      exact hm
    have hun := HU.out
    rw [drop_s hd, unq_cons] at hun
    have hkn : (k : Int) + 1 ≤ (n : Int) := by omega
    have hk1t : ((k : Int) + 1).toNat = k + 1 := by omega
    have e1 : (m = 34) = (d = 34) := by rw [← hm, eq_iff_iff]; exact toNat_eq d 34
    have e2 : (m = 92) = (d = 92) := by rw [← hm, eq_iff_iff]; exact toNat_eq d 92
    by_cases g1 : m = 34
    · have HRR : Hid (R = some (acc, l.drop (k + 1))) := Lib.hid (by rw [← hun, if_pos (by rw [← e1]; exact g1)])
      have hex : S.extract (k + 1) n = mkS (l.drop (k + 1)) := by
        rw [← HL.out, HX.out, List.take_of_length_le (by rw [List.length_drop]; exact Nat.le_refl _)]
      have hcv := fun j => run_bytes (dst := 9) Tryz.underlying45 Tryz.underlying5 Tryz.underlying9 ((own_sl HO.out).below (below_drewN (Below.refl _ wr) j))
      rw [bstr_bI] at hcv
      clear e1 e2 hun hd hm hlk
      have HF : Hid (unV R = .tuple #[.string (mkS acc), .string (mkS (l.drop (k + 1))), .bool true]) := Lib.hid (by rw [HRR.out]; rfl)
      generalize mkS acc = A at *
      generalize l.drop (k + 1) = D at *
      have hwk : IntKind.i64.wrap ((k : Int) + 1) = (k : Int) + 1 := IntWalk.i64_in _ (by omega)
      go_wp2_with fail
      go_quiet (fail)
      go_wp2_with fail
      go_ret3
      rw [HF.out]
      exact ⟨rfl, below_drewN hbel _⟩
    by_cases g2 : m = 92
    case neg =>
      have hun2 : unq (l.drop (k + 1)) (acc ++ [d]) = R := by
        rw [if_neg (by rw [← e1]; exact g1), if_neg (by rw [← e2]; exact g2)] at hun
        exact hun
      have HU2 := Lib.hid hun2
      have HQ2 : Hid ((acc ++ [d]).length = q + 1) := Lib.hid (by rw [List.length_append, HQ.out]; rfl)
      have HCS := Lib.hid (bI_snocE acc d m hm)
      have hown := HO.out
      clear e1 e2 hun hd hm hlk hun2
      go_wp2_with (at_builtin; refine append1 [_] Bits.elU8 rfl _ _ rfl hown hbel hbel.size rfl rfl rfl (one_all _ rfl) ?c4 ?c5 ?_)
      case c4 => omega
      case c5 => omega
      intro v5 w5 hown5 hbel5 hgr5
      have HO5 : Hid (w5.ownsRow w.heap.size 5 1 v5 (q + 1) ((bI (acc ++ [d])).map (Value.int .u8))) := Lib.hid (by rw [HCS.out]; exact hown5)
      have HB5 := Lib.hid hbel5
      obtain ⟨vo, vc, rfl, -, -, -⟩ := own_shape hown5
      clear hown hown5 hgr5 hbel5 hbel
      go_wp2_with fail
      go_roundw
      case rel => exact ⟨k + 1, q + 1, acc ++ [d], by omega, by omega, by go_num, HQ2, HO5, HU2, HB5.out⟩
      case measure => simp [intOf]; omega
    subst g2
    by_cases hlt2 : k + 1 < n
    case neg =>
      have HRR : Hid (R = none) := Lib.hid (by
        rw [← hun, if_neg (by rw [← e1]; exact g1), if_pos (by rw [← e2])]
        have : l.drop (k + 1) = [] := List.drop_of_length_le (by rw [HL.out]; omega)
        rw [this])
      have hk1 : ¬ (k : Int) + 1 < (n : Int) := by omega
      clear e1 e2 hun hd hm hlk g1
      go_wp2_with fail
      go_ret3
      rw [HRR.out]
      exact ⟨rfl, hbel⟩
    have hlk2 : k + 1 < l.length := by rw [HL.out]; exact hlt2
    have hks2 : k + 1 < S.size := by rw [hn]; exact hlt2
    have hlt2i : (k : Int) + 1 < (n : Int) := by omega
    obtain ⟨c, hc⟩ : ∃ d, l[k + 1]? = some d := ⟨_, List.getElem?_eq_getElem hlk2⟩
    obtain ⟨z, hz⟩ : ∃ m, c.toNat = m := ⟨_, rfl⟩
    have hgz : (S[k + 1]'hks2).toNat = z := by
      rw [HG.out (k + 1) hks2 hlk2, (List.getElem?_eq_some_iff.1 hc).2]
      exact hz
    have e3 : (z = 110) = (c = 110) := by rw [← hz, eq_iff_iff]; exact toNat_eq c 110
    have hun3 : unq (l.drop (k + 1 + 1)) (acc ++ [if c = 110 then 10 else c]) = R := by
      rw [if_neg (by rw [← e1]; exact g1), if_pos (by rw [← e2]), drop_s hc] at hun
      exact hun
    by_cases g3 : z = 110
    · subst g3
      rw [if_pos (by rw [← e3])] at hun3
      have HU2 := Lib.hid hun3
      have HQ2 : Hid ((acc ++ [10]).length = q + 1) := Lib.hid (by rw [List.length_append, HQ.out]; rfl)
      have HCS := Lib.hid (bI_snocE acc 10 10 rfl)
      have hown := HO.out
      clear e1 e2 e3 hun hd hm hlk hun3 hc hz g1 hlk2
      go_wp2_with (at_builtin; refine append1 [_] Bits.elU8 rfl _ _ rfl hown hbel hbel.size rfl rfl rfl (one_all _ rfl) ?c4 ?c5 ?_)
      case c4 => omega
      case c5 => omega
      intro v5 w5 hown5 hbel5 hgr5
      have HO5 : Hid (w5.ownsRow w.heap.size 5 1 v5 (q + 1) ((bI (acc ++ [10])).map (Value.int .u8))) := Lib.hid (by rw [HCS.out]; exact hown5)
      have HB5 := Lib.hid hbel5
      obtain ⟨vo, vc, rfl, -, -, -⟩ := own_shape hown5
      clear hown hown5 hgr5 hbel5 hbel
      go_wp2_with fail
      go_roundw
      case rel => exact ⟨k + 1 + 1, q + 1, acc ++ [10], by omega, by omega, by go_num, HQ2, HO5, HU2, HB5.out⟩
      case measure => simp [intOf]; omega
    · rw [if_neg (by rw [← e3]; exact g3)] at hun3
      have HU2 := Lib.hid hun3
      have HQ2 : Hid ((acc ++ [c]).length = q + 1) := Lib.hid (by rw [List.length_append, HQ.out]; rfl)
      have HCS := Lib.hid (bI_snocE acc c z hz)
      have hown := HO.out
      clear e1 e2 e3 hun hd hm hlk hun3 hc hz g1 hlk2
      go_wp2_with (at_builtin; refine append1 [_] Bits.elU8 rfl _ _ rfl hown hbel hbel.size rfl rfl rfl (one_all _ rfl) ?c4 ?c5 ?_)
      case c4 => omega
      case c5 => omega
      intro v5 w5 hown5 hbel5 hgr5
      have HO5 : Hid (w5.ownsRow w.heap.size 5 1 v5 (q + 1) ((bI (acc ++ [c])).map (Value.int .u8))) := Lib.hid (by rw [HCS.out]; exact hown5)
      have HB5 := Lib.hid hbel5
      obtain ⟨vo, vc, rfl, -, -, -⟩ := own_shape hown5
      clear hown hown5 hgr5 hbel5 hbel
      go_wp2_with fail
      go_roundw
      case rel => exact ⟨k + 1 + 1, q + 1, acc ++ [c], by omega, by omega, by go_num, HQ2, HO5, HU2, HB5.out⟩
      case measure => simp [intOf]; omega
end Go.Proofs.YtlfhcjhbnakamaaGreatDoor.Lab
/-
  Matches: the walk of MatchesText (PRINTED by mklb8.py).
-/
namespace Go.Proofs.YtlfhcjhbnakamaaGreatDoor.Lab
open Go.RowKit Go.Gh
set_option linter.unusedVariables false
set_option linter.unusedSimpArgs false
theorem commas_snoc : ∀ (l : List By) (x : By), commas (l ++ [x]) = if l = [] then x else commas l ++ 44 :: x
  | [], x => rfl
  | [y], x => rfl
  | y :: z :: r, x => by
    have ih := commas_snoc (z :: r) x
    rw [if_neg (by simp)] at ih ⊢
    show y ++ 44 :: commas ((z :: r) ++ [x]) = y ++ 44 :: commas (z :: r) ++ 44 :: x
    rw [ih, List.append_assoc]
    rfl
theorem pre_next {M : List Mt} {k : Nat} {x : Mt} (hx : M[k]? = some x) : commas ((M.take (k + 1)).map mtx) = if k = 0 then mtx x else commas ((M.take k).map mtx) ++ 44 :: mtx x := by
  rw [List.take_add_one, hx, List.map_append]
  show commas ((M.take k).map mtx ++ [mtx x]) = _
  rw [commas_snoc]
  have hl := (List.getElem?_eq_some_iff.1 hx).1
  by_cases h0 : k = 0
  · subst h0
    rw [List.take_zero]
    rfl
  · have : (M.take k).map mtx ≠ [] := by
      intro e
      have := congrArg List.length e
      rw [List.length_map, List.length_take, List.length_nil] at this
      omega
    rw [if_neg h0, if_neg this]
/-- The condition on the world may grow on the way. -/
theorem wpAnyH_more {P : Program} {ops : Array Oper} {Q : Exit → Act → World → Prop} {md : Region.Mode} {S S' : World → Prop} (hs : ∀ w, S' w → S w) : ∀ (fuel : Nat) (listed : Array Bool) (a : Act) (w : World), wpAnyH P md ops Q S' fuel listed a w → wpAnyH P md ops Q S fuel listed a w
  | 0, _, _, _, h => h
  | fuel + 1, _, _, _, h => ⟨h.1, fun i hi => wpOp_mono (fun a' w' h' => ⟨hs _ h'.1, wpAnyH_more hs fuel _ a' w' h'.2⟩) (h.2 i hi)⟩
set_option maxHeartbeats 8000000 in
set_option maxRecDepth 100000 in
theorem mtext_any (v : Value) (M : List Mt) (w : World) (hs : Sp MtR 3 w v M) (h0 : matchF M = 0) : Calls Tryz.prog 28 #[v] w fun e w' => e = .returned (.string (mkS (textM M))) ∧ Below w.heap.size w w' := by
  obtain ⟨n, hn⟩ : ∃ n, M.length = n := ⟨_, rfl⟩
  obtain ⟨ao, c, rfl, hnc, hc⟩ := hs.shapeN hn
  have HN := Lib.hid hn
  have hn10 : n ≤ 10 := by have := (matchF_zero h0).1; omega
  have HOK := Lib.hid (fun m (hm : m ∈ M) => ok_mem h0 hm)
  have HS := Lib.hid hs
  obtain ⟨R, hR⟩ : ∃ R, mkS (textM M) = R := ⟨_, rfl⟩
  rw [hR]
  have HR := Lib.hid hR
  clear hn h0 hs hR
  go_enter Tryz.func28, Tryz.ntmps28
  go_wp2_with fail
  go_loopw [3, 8] (fun o i wr => ∃ (k : Nat) (O : ByteArray), k ≤ n ∧ i = .int .i64 k ∧ o = .string O ∧ Hid (O = mkS (123 :: commas ((M.take k).map mtx))) ∧ O.size ≤ 1 + 105 * k ∧ Hid (Below w.heap.size w wr)) (fun _ i _ => n - (intOf i).toNat)
  case atStart => exact ⟨0, _, Nat.zero_le _, rfl, rfl, Lib.hid rfl, by decide, Lib.hid (Below.refl _ _)⟩
  case round =>
    obtain ⟨k, O, hk, rfl, rfl, HO, hos, HB⟩ := hrel
    by_cases hlt : k < n
    case neg =>
      obtain rfl : k = n := by omega
      have hs1 : O.size + 1 ≤ 9223372036854775807 := by omega
      have HE : Hid (O ++ ⟨#[125]⟩ = R) := Lib.hid (by
        rw [← HR.out, HO.out, List.take_of_length_le (Nat.le_of_eq HN.out)]
        exact mkS_app _ [125])
      go_wp2_with fail
      go_ret
      exact ⟨by rw [← HE.out]; rfl, HB.out⟩
    obtain ⟨x, hx⟩ : ∃ x, M[k]? = some x := ⟨_, List.getElem?_eq_getElem (by rw [HN.out]; exact hlt)⟩
    obtain ⟨o1, o2, o3, o4⟩ := HOK.out x (List.mem_of_getElem? hx)
    obtain ⟨b, off, cs, rfl, ⟨rfl, hb1, hb2, hk1, hk2⟩, _, hck⟩ := (HS.out.below mtR_mono HB.out).get hx
    have c0 := hck 0 _ rfl
    have c1 := hck 1 _ rfl
    have c2 := hck 2 _ rfl
    rw [Nat.add_zero] at c0
    have HPN := Lib.hid (pre_next hx)
    obtain ⟨Sn, hSn⟩ : ∃ S, S = mkS x.nm := ⟨_, rfl⟩
    obtain ⟨V, hV⟩ : ∃ S, S = mkS x.vl := ⟨_, rfl⟩
    obtain ⟨Qv, hQv⟩ : ∃ S, S = mkS (quo x.vl) := ⟨_, rfl⟩
    have hsz1 : Sn.size ≤ 20 := by rw [hSn, mkS_size]; exact o3
    have hsz3 : Qv.size ≤ 82 := by
      rw [hQv, mkS_size]
      unfold quo
      have := esc_le x.vl
      simp only [List.length_cons, List.length_append, List.length_nil]
      omega
    have HMX : Hid (Sn ++ mkS (sgn x.kd) ++ Qv = mkS (mtx x)) := Lib.hid (by
      rw [hSn, hQv, mkS_app, mkS_app]
      unfold mtx
      rw [List.append_assoc])
    have HQ := Lib.hid (fun W => inquotes_any x.vl W (by omega))
    rw [← hV] at c2
    rw [← hSn] at c1
    rw [← hV, ← hQv] at HQ
    obtain ⟨G, hG⟩ : ∃ G, G = wr.heap.size := ⟨_, rfl⟩
    obtain ⟨P, hP⟩ : ∃ P : ByteArray, P = if k = 0 then O else O ++ ⟨#[44]⟩ := ⟨_, rfl⟩
    have hPs : P.size ≤ 2 + 105 * k := by
      rw [hP]
      split
      · omega
      · rw [ByteArray.size_append]
        show O.size + 1 ≤ _
        omega
    have HPX : Hid (P ++ mkS (mtx x) = mkS (123 :: commas ((M.take (k + 1)).map mtx))) := Lib.hid (by
      rw [hP, HPN.out]
      by_cases hk0 : k = 0
      · subst hk0
        rw [if_pos rfl, if_pos rfl, HO.out, mkS_app]
        rfl
      · rw [if_neg hk0, if_neg hk0, HO.out]
        show mkS _ ++ mkS [44] ++ mkS _ = _
        rw [mkS_app, mkS_app]
        simp [List.append_assoc])
    obtain ⟨K, hK⟩ : ∃ K, x.kd = K := ⟨_, rfl⟩
    rw [hK] at c0 o1 o2 HMX
    clear hSn hV hQv hck hx hk1 hk2 hb1 hb2 hK o3 o4
    have hos1 : O.size + 1 ≤ 9223372036854775807 := by omega
    go_upto_if 14 with (fail)
    obtain ⟨W5, hW5⟩ : ∃ W5, W5 = wr.alloc (Obj.cells #[.int .i64 K, .string Sn, .string V] 70) := ⟨_, rfl⟩
    rw [← hW5, ← hG]
    have hbox : W5.heap[G]? = some (.cells #[.int .i64 K, .string Sn, .string V] 70 (0, 0)) := by rw [hW5, hG]; exact heap_alloc_new wr _
    have hbw : Below wr.heap.size wr W5 := by rw [hW5]; exact (Below.refl _ _).alloc (Nat.le_refl _) _
    have HB5 : Hid (Below w.heap.size w W5) := Lib.hid (HB.out.trans (hbw.mono HB.out.size))
    have y0 : W5.drew.cell? ⟨G, 0, none⟩ = some (.int .i64 K) := (row_cell 0 _ hbox rfl).1
    have y1 : W5.drew.cell? ⟨G, 1, none⟩ = some (.string Sn) := (row_cell 1 _ hbox rfl).1
    have y2 : W5.drew.cell? ⟨G, 2, none⟩ = some (.string V) := (row_cell 2 _ hbox rfl).1
    have HP := Lib.hid hP
    clear hW5 hG hbox hbw c0 c1 c2 HPN hP
    go_cut [3] (fun o wx => o = .string P ∧ wx = W5)
    case first =>
      by_cases hk0 : k = 0
      · have HP0 : Hid (P = O) := Lib.hid (by rw [HP.out, if_pos hk0])
        subst hk0
        go_wp2_with fail
        go_meet
        case rel => exact ⟨by rw [HP0.out], rfl⟩
      · have HP0 : Hid (P = O ++ ⟨#[44]⟩) := Lib.hid (by rw [HP.out, if_neg hk0])
        have hki : (0 : Int) < (k : Int) := by omega
        go_wp2_with fail
        go_meet
        case rel => exact ⟨by rw [HP0.out], rfl⟩
    case rest =>
    obtain ⟨rfl, rfl⟩ := hcut
    obtain ⟨κ, hκ⟩ : ∃ κ : Nat, K = (κ : Int) := ⟨K.toNat, by omega⟩
    subst hκ
    have hκi : (κ : Int) < 5 := by omega
    obtain ⟨Sg, hSg⟩ : ∃ S, S = mkS (sgn κ) := ⟨_, rfl⟩
    have hsz2 : Sg.size ≤ 2 := by rw [hSg, mkS_size]; exact sgn_le _
    rw [← hSg] at HMX
    have HE2 : Hid (P ++ (Sn ++ Sg ++ Qv) = mkS (123 :: commas ((M.take (k + 1)).map mtx))) := Lib.hid (by
      rw [← HPX.out, ← HMX.out])
    have hs1 : (9223372036854775807 < Sn.size + Sg.size) = False := eq_false (by omega)
    have hs2 : (9223372036854775807 < Sn.size + Sg.size + Qv.size) = False := eq_false (by omega)
    have hs3 : (9223372036854775807 < P.size + (Sn.size + Sg.size + Qv.size)) = False := eq_false (by omega)
    have hos2 : (P ++ (Sn ++ Sg ++ Qv) : ByteArray).size ≤ 1 + 105 * (k + 1) := by
      rw [ByteArray.size_append, ByteArray.size_append, ByteArray.size_append]
      omega
    have HOS := Lib.hid hos2
    have HSG := Lib.hid hSg
    have hx4 : κ = 1 ∨ κ = 2 ∨ κ = 3 ∨ κ = 4 := by omega
    have HX4 := Lib.hid hx4
    clear hos2 hSg hx4
    go_upto_region 7 with (fail)
    clear HPX HMX
    have x0 : wc.drew.cell? ⟨G, 0, none⟩ = some (.int .i64 κ) := y0
    have x1 : wc.drew.cell? ⟨G, 1, none⟩ = some (.string Sn) := y1
    have x2 : wc.drew.cell? ⟨G, 2, none⟩ = some (.string V) := y2
    obtain ⟨W6, hW6⟩ : ∃ W6, W6 = (wc.alloc (Obj.cells #[.string ⟨#[]⟩, .string ⟨#[61]⟩, .string ⟨#[33, 61]⟩, .string ⟨#[61, 94]⟩, .string ⟨#[61, 126]⟩] 9)).drew := ⟨_, rfl⟩
    have hb6 : Below wc.heap.size wc W6 := by rw [hW6]; exact ((Below.refl _ _).alloc (Nat.le_refl _) _).drew
    have hl : G < wc.heap.size := cell_lt y0
    have z0 : W6.cell? ⟨G, 0, none⟩ = some (.int .i64 κ) := (hb6.cell (p := ⟨G, 0, none⟩) hl).trans y0
    have z1 : W6.cell? ⟨G, 1, none⟩ = some (.string Sn) := (hb6.cell (p := ⟨G, 1, none⟩) hl).trans y1
    have z2 : W6.cell? ⟨G, 2, none⟩ = some (.string V) := (hb6.cell (p := ⟨G, 2, none⟩) hl).trans y2
    obtain ⟨Nw, hNw⟩ : ∃ Nw, Nw = wc.heap.size := ⟨_, rfl⟩
    have z3 : W6.cell? ⟨Nw, κ, none⟩ = some (.string Sg) := by
      rw [hW6, hNw, HSG.out]
      refine (row_cell κ _ (heap_alloc_new wc _) ?_).1
      rcases HX4.out with rfl | rfl | rfl | rfl <;> rfl
    have HB6 := Lib.hid hb6
    have HW6 := Lib.hid hW6
    have HNW := Lib.hid hNw
    clear hb6 hl hW6 hNw
    refine wp_region_noPanic ?_
    refine wp_region_held_drew (S := fun w' => w'.cell? ⟨G, 0, none⟩ = some (.int .i64 κ) ∧ w'.cell? ⟨G, 1, none⟩ = some (.string Sn) ∧ w'.cell? ⟨G, 2, none⟩ = some (.string V)) (by kernel_rfl) ⟨x0, x1, x2⟩ (fun hHeld => ?_)
    refine wpAnyH_take (i := 0) (v := ?v0) rfl (by kernel_rfl) (by kernel_rfl) (by kernel_rfl) (fun _ _ _ h => h) (Or.inl ⟨by rfl, ?hy0⟩) hHeld ?rest0
    case hy0 => (intro w hSw; (try dsimp only at hSw); go_simp; (try with_reducible rfl))
    case rest0 =>
    try simp only [Act.put, List.setIfInBounds_toArray, List.set_cons_zero, List.set_cons_succ, List.getElem_toArray, List.getElem_cons_succ, List.getElem_cons_zero]
    refine wpAnyH_take (i := 1) (v := ?v1) rfl (by kernel_rfl) (by kernel_rfl) (by kernel_rfl) (fun _ _ _ h => h) (Or.inl ⟨by rfl, ?hy1⟩) hHeld ?rest1
    case hy1 => (intro w hSw; (try dsimp only at hSw); go_simp; (try with_reducible rfl))
    case rest1 =>
    try simp only [Act.put, List.setIfInBounds_toArray, List.set_cons_zero, List.set_cons_succ, List.getElem_toArray, List.getElem_cons_succ, List.getElem_cons_zero]
    refine wpAnyH_take (i := 2) (v := ?v2) rfl (by kernel_rfl) (by kernel_rfl) (by kernel_rfl) (fun _ _ _ h => h) (Or.inl ⟨by rfl, ?hy2⟩) hHeld ?rest2
    case hy2 => (intro w hSw; (try dsimp only at hSw); go_simp; (try with_reducible rfl))
    case rest2 =>
    try simp only [Act.put, List.setIfInBounds_toArray, List.set_cons_zero, List.set_cons_succ, List.getElem_toArray, List.getElem_cons_succ, List.getElem_cons_zero]
    refine wpAnyH_take (i := 4) (v := ?v4) rfl (by kernel_rfl) (by kernel_rfl) (by kernel_rfl) (fun _ _ _ h => h) (Or.inl ⟨by rfl, ?hy4⟩) hHeld ?rest4
    case hy4 => (intro w hSw; (try dsimp only at hSw); go_simp; (try with_reducible rfl))
    case rest4 =>
    try simp only [Act.put, List.setIfInBounds_toArray, List.set_cons_zero, List.set_cons_succ, List.getElem_toArray, List.getElem_cons_succ, List.getElem_cons_zero]
    refine wpAnyH_take (i := 5) (v := ?v5) rfl (by kernel_rfl) (by kernel_rfl) (by kernel_rfl) (fun _ _ _ h => h) (Or.inl ⟨by rfl, ?hy5⟩) hHeld ?rest5
    case hy5 => (intro w hSw; (try dsimp only at hSw); go_simp; (try with_reducible rfl))
    case rest5 =>
    try simp only [Act.put, List.setIfInBounds_toArray, List.set_cons_zero, List.set_cons_succ, List.getElem_toArray, List.getElem_cons_succ, List.getElem_cons_zero]
    refine wpAnyH_take (i := 9) (v := ?v9) rfl (by kernel_rfl) (by kernel_rfl) (by kernel_rfl) (fun _ _ _ h => h) (Or.inl ⟨by rfl, ?hy9⟩) hHeld ?rest9
    case hy9 => (intro w hSw; (try dsimp only at hSw); go_simp; (try with_reducible rfl))
    case rest9 =>
    try simp only [Act.put, List.setIfInBounds_toArray, List.set_cons_zero, List.set_cons_succ, List.getElem_toArray, List.getElem_cons_succ, List.getElem_cons_zero]
    refine wpAnyH_take (i := 10) (v := ?v10) rfl (by kernel_rfl) (by kernel_rfl) (by kernel_rfl) (fun _ _ _ h => h) (Or.inl ⟨by rfl, ?hy10⟩) hHeld ?rest10
    case hy10 => (intro w hSw; (try dsimp only at hSw); go_simp; (try with_reducible rfl))
    case rest10 =>
    try simp only [Act.put, List.setIfInBounds_toArray, List.set_cons_zero, List.set_cons_succ, List.getElem_toArray, List.getElem_cons_succ, List.getElem_cons_zero]
    refine wpAnyH_ready (rs := [3, 11]) (by kernel_rfl) (by simp) ?_
    refine AllReadyH.cons rfl (fun K hK => ?_) ?_
    · go_simp
      rw [← HW6.out, ← HNW.out]
      refine hK.out _ _ ⟨z0, z1, z2⟩ (fun hHeld => ?_)
      clear hK K
      try simp only [Act.put, List.setIfInBounds_toArray, List.set_cons_zero, List.set_cons_succ, List.getElem_toArray, List.getElem_cons_succ, List.getElem_cons_zero]
      refine wpAnyH_more (S' := fun w' => w'.cell? ⟨G, 0, none⟩ = some (.int .i64 κ) ∧ w'.cell? ⟨G, 1, none⟩ = some (.string Sn) ∧ w'.cell? ⟨G, 2, none⟩ = some (.string V) ∧ w'.cell? ⟨Nw, κ, none⟩ = some (.string Sg)) (fun w h => ⟨h.1, h.2.1, h.2.2.1⟩) _ _ _ _ ?_
      have hHeld1 : W6.cell? ⟨G, 0, none⟩ = some (.int .i64 κ) ∧ W6.cell? ⟨G, 1, none⟩ = some (.string Sn) ∧ W6.cell? ⟨G, 2, none⟩ = some (.string V) ∧ W6.cell? ⟨Nw, κ, none⟩ = some (.string Sg) := ⟨z0, z1, z2, z3⟩
      refine wpAnyH_take (i := 6) (v := ?v6) rfl (by kernel_rfl) (by kernel_rfl) (by kernel_rfl) (fun _ _ _ h => h) (Or.inl ⟨by rfl, ?hy6⟩) hHeld1 ?rest6
      case hy6 => (intro w hSw; (try dsimp only at hSw); go_simp; (try with_reducible rfl))
      case rest6 =>
      try simp only [Act.put, List.setIfInBounds_toArray, List.set_cons_zero, List.set_cons_succ, List.getElem_toArray, List.getElem_cons_succ, List.getElem_cons_zero]
      refine wpAnyH_take (i := 7) (v := ?v7) rfl (by kernel_rfl) (by kernel_rfl) (by kernel_rfl) (fun _ _ _ h => h) (Or.inl ⟨by rfl, ?hy7⟩) hHeld1 ?rest7
      case hy7 => (intro w hSw; (try dsimp only at hSw); go_simp; (try with_reducible rfl))
      case rest7 =>
      try simp only [Act.put, List.setIfInBounds_toArray, List.set_cons_zero, List.set_cons_succ, List.getElem_toArray, List.getElem_cons_succ, List.getElem_cons_zero]
      refine wpAnyH_take (i := 8) (v := ?v8) rfl (by kernel_rfl) (by kernel_rfl) (by kernel_rfl) (fun _ _ _ h => h) (Or.inl ⟨by rfl, ?hy8⟩) hHeld1 ?rest8
      case hy8 => (intro w hSw; (try dsimp only at hSw); go_simp; (try with_reducible rfl))
      case rest8 =>
      try simp only [Act.put, List.setIfInBounds_toArray, List.set_cons_zero, List.set_cons_succ, List.getElem_toArray, List.getElem_cons_succ, List.getElem_cons_zero]
      refine wpAnyH_ready (rs := [11]) (by kernel_rfl) (by simp) ?_
      refine AllReadyH.cons rfl (fun K hK => ?_) ?_
      · go_simp
        refine (HQ.out _).mono ?_
        rintro e w2 ⟨rfl, hw2⟩
        have hw2 := hw2.symm
        subst hw2
        refine hK.out _ _ hHeld1 (fun hHeld2 => ?_)
        clear hK K
        try simp only [Act.put, List.setIfInBounds_toArray, List.set_cons_zero, List.set_cons_succ, List.getElem_toArray, List.getElem_cons_succ, List.getElem_cons_zero]
        refine wpAnyH_take (i := 12) (v := ?v12) rfl (by kernel_rfl) (by kernel_rfl) (by kernel_rfl) (fun _ _ _ h => h) (Or.inl ⟨by rfl, ?hy12⟩) hHeld1 ?rest12
        case hy12 => (intro w hSw; (try dsimp only at hSw); go_simp; (try with_reducible rfl))
        case rest12 =>
        try simp only [Act.put, List.setIfInBounds_toArray, List.set_cons_zero, List.set_cons_succ, List.getElem_toArray, List.getElem_cons_succ, List.getElem_cons_zero]
        refine wpAnyH_take (i := 13) (v := ?v13) rfl (by kernel_rfl) (by kernel_rfl) (by kernel_rfl) (fun _ _ _ h => h) (Or.inl ⟨by rfl, ?hy13⟩) hHeld1 ?rest13
        case hy13 => (intro w hSw; (try dsimp only at hSw); go_simp; (try with_reducible rfl))
        case rest13 =>
        try simp only [Act.put, List.setIfInBounds_toArray, List.set_cons_zero, List.set_cons_succ, List.getElem_toArray, List.getElem_cons_succ, List.getElem_cons_zero]
        refine wpAnyH_take (i := 14) (v := ?v14) rfl (by kernel_rfl) (by kernel_rfl) (by kernel_rfl) (fun _ _ _ h => h) (Or.inl ⟨by rfl, ?hy14⟩) hHeld1 ?rest14
        case hy14 => (intro w hSw; (try dsimp only at hSw); go_simp; (try with_reducible rfl))
        case rest14 =>
        try simp only [Act.put, List.setIfInBounds_toArray, List.set_cons_zero, List.set_cons_succ, List.getElem_toArray, List.getElem_cons_succ, List.getElem_cons_zero]
        refine wpAnyH_done (by kernel_rfl) ?_ _
        refine NoPanic.normal ?_
        have HBZ : Hid (Below w.heap.size w W6) := Lib.hid (HB5.out.trans (HB6.out.mono HB5.out.size))
        clear z0 z1 z2 z3 x0 x1 x2 y0 y1 y2 hHeld hHeld1
        go_wp2_with fail
        go_roundw
        case rel => exact ⟨k + 1, _, by omega, by go_num, rfl, HE2, HOS.out, HBZ⟩
        case measure => simp [intOf]; omega
      · exact AllReadyH.nil
    refine AllReadyH.cons rfl (fun K hK => ?_) ?_
    · go_simp
      refine (HQ.out _).mono ?_
      rintro e w2 ⟨rfl, hw2⟩
      have hw2 := hw2.symm
      subst hw2
      refine hK.out _ _ hHeld (fun hHeld2 => ?_)
      clear hK K
      try simp only [Act.put, List.setIfInBounds_toArray, List.set_cons_zero, List.set_cons_succ, List.getElem_toArray, List.getElem_cons_succ, List.getElem_cons_zero]
      refine wpAnyH_ready (rs := [3]) (by kernel_rfl) (by simp) ?_
      refine AllReadyH.cons rfl (fun K hK => ?_) ?_
      · go_simp
        rw [← HW6.out, ← HNW.out]
        refine hK.out _ _ ⟨z0, z1, z2⟩ (fun hHeld => ?_)
        clear hK K
        try simp only [Act.put, List.setIfInBounds_toArray, List.set_cons_zero, List.set_cons_succ, List.getElem_toArray, List.getElem_cons_succ, List.getElem_cons_zero]
        refine wpAnyH_more (S' := fun w' => w'.cell? ⟨G, 0, none⟩ = some (.int .i64 κ) ∧ w'.cell? ⟨G, 1, none⟩ = some (.string Sn) ∧ w'.cell? ⟨G, 2, none⟩ = some (.string V) ∧ w'.cell? ⟨Nw, κ, none⟩ = some (.string Sg)) (fun w h => ⟨h.1, h.2.1, h.2.2.1⟩) _ _ _ _ ?_
        have hHeld1 : W6.cell? ⟨G, 0, none⟩ = some (.int .i64 κ) ∧ W6.cell? ⟨G, 1, none⟩ = some (.string Sn) ∧ W6.cell? ⟨G, 2, none⟩ = some (.string V) ∧ W6.cell? ⟨Nw, κ, none⟩ = some (.string Sg) := ⟨z0, z1, z2, z3⟩
        refine wpAnyH_take (i := 6) (v := ?v6) rfl (by kernel_rfl) (by kernel_rfl) (by kernel_rfl) (fun _ _ _ h => h) (Or.inl ⟨by rfl, ?hy6⟩) hHeld1 ?rest6
        case hy6 => (intro w hSw; (try dsimp only at hSw); go_simp; (try with_reducible rfl))
        case rest6 =>
        try simp only [Act.put, List.setIfInBounds_toArray, List.set_cons_zero, List.set_cons_succ, List.getElem_toArray, List.getElem_cons_succ, List.getElem_cons_zero]
        refine wpAnyH_take (i := 7) (v := ?v7) rfl (by kernel_rfl) (by kernel_rfl) (by kernel_rfl) (fun _ _ _ h => h) (Or.inl ⟨by rfl, ?hy7⟩) hHeld1 ?rest7
        case hy7 => (intro w hSw; (try dsimp only at hSw); go_simp; (try with_reducible rfl))
        case rest7 =>
        try simp only [Act.put, List.setIfInBounds_toArray, List.set_cons_zero, List.set_cons_succ, List.getElem_toArray, List.getElem_cons_succ, List.getElem_cons_zero]
        refine wpAnyH_take (i := 8) (v := ?v8) rfl (by kernel_rfl) (by kernel_rfl) (by kernel_rfl) (fun _ _ _ h => h) (Or.inl ⟨by rfl, ?hy8⟩) hHeld1 ?rest8
        case hy8 => (intro w hSw; (try dsimp only at hSw); go_simp; (try with_reducible rfl))
        case rest8 =>
        try simp only [Act.put, List.setIfInBounds_toArray, List.set_cons_zero, List.set_cons_succ, List.getElem_toArray, List.getElem_cons_succ, List.getElem_cons_zero]
        refine wpAnyH_take (i := 12) (v := ?v12) rfl (by kernel_rfl) (by kernel_rfl) (by kernel_rfl) (fun _ _ _ h => h) (Or.inl ⟨by rfl, ?hy12⟩) hHeld1 ?rest12
        case hy12 => (intro w hSw; (try dsimp only at hSw); go_simp; (try with_reducible rfl))
        case rest12 =>
        try simp only [Act.put, List.setIfInBounds_toArray, List.set_cons_zero, List.set_cons_succ, List.getElem_toArray, List.getElem_cons_succ, List.getElem_cons_zero]
        refine wpAnyH_take (i := 13) (v := ?v13) rfl (by kernel_rfl) (by kernel_rfl) (by kernel_rfl) (fun _ _ _ h => h) (Or.inl ⟨by rfl, ?hy13⟩) hHeld1 ?rest13
        case hy13 => (intro w hSw; (try dsimp only at hSw); go_simp; (try with_reducible rfl))
        case rest13 =>
        try simp only [Act.put, List.setIfInBounds_toArray, List.set_cons_zero, List.set_cons_succ, List.getElem_toArray, List.getElem_cons_succ, List.getElem_cons_zero]
        refine wpAnyH_take (i := 14) (v := ?v14) rfl (by kernel_rfl) (by kernel_rfl) (by kernel_rfl) (fun _ _ _ h => h) (Or.inl ⟨by rfl, ?hy14⟩) hHeld1 ?rest14
        case hy14 => (intro w hSw; (try dsimp only at hSw); go_simp; (try with_reducible rfl))
        case rest14 =>
        try simp only [Act.put, List.setIfInBounds_toArray, List.set_cons_zero, List.set_cons_succ, List.getElem_toArray, List.getElem_cons_succ, List.getElem_cons_zero]
        refine wpAnyH_done (by kernel_rfl) ?_ _
        refine NoPanic.normal ?_
        have HBZ : Hid (Below w.heap.size w W6) := Lib.hid (HB5.out.trans (HB6.out.mono HB5.out.size))
        clear z0 z1 z2 z3 x0 x1 x2 y0 y1 y2 hHeld hHeld1
        go_wp2_with fail
        go_roundw
        case rel => exact ⟨k + 1, _, by omega, by go_num, rfl, HE2, HOS.out, HBZ⟩
        case measure => simp [intOf]; omega
      · exact AllReadyH.nil
    exact AllReadyH.nil
end Go.Proofs.YtlfhcjhbnakamaaGreatDoor.Lab
/-
  Labels: the walks of matches, AsMatches, Text, MatchText, LabelsText (PRINTED by mklb9.py).
-/
namespace Go.Proofs.YtlfhcjhbnakamaaGreatDoor.Lab
open Go.RowKit Go.Gh
set_option linter.unusedVariables false
set_option linter.unusedSimpArgs false
theorem infoMt : (Tryz.prog.info? 70).map (fun i => (i.zero, i.size, i.bytes)) = some (some (.agg #[.int .i64 0, .string ⟨#[]⟩, .string ⟨#[]⟩]), 3, 40) := by kernel_rfl
theorem elMt : Elem Tryz.prog 34 70 3 40 := elem_of Tryz.underlying34 infoMt rfl (by decide)
theorem infoLb : (Tryz.prog.info? 72).map (fun i => (i.zero, i.size, i.bytes)) = some (some (.agg #[.string ⟨#[]⟩, .string ⟨#[]⟩]), 2, 32) := by kernel_rfl
theorem elLb : Elem Tryz.prog 22 72 2 32 := elem_of Tryz.underlying22 infoLb rfl (by decide)
theorem mtR_grow (T : TypeId) (k B : Nat) : Grow MtR T k B := fun w w' a c u m us h _ _ => h
theorem lbR_grow (T : TypeId) (k B : Nat) : Grow LbR T k B := fun w w' a c u m us h _ _ => h
theorem asM_take {L : List Lb} {k : Nat} {x : Lb} (h : L[k]? = some x) : asM (L.take (k + 1)) = asM (L.take k) ++ [⟨1, x.nm, x.vl⟩] := by
  unfold asM
  rw [List.take_add_one, h, List.map_append]
  rfl
theorem asM_len (L : List Lb) : (asM L).length = L.length := by unfold asM; rw [List.length_map]
theorem labelF_len {l : List Lb} (h : labelF l = 0) : l.length ≤ 10 := by
  have := (matchF_zero (labelF_match h)).1
  rwa [asM_len] at this
set_option maxHeartbeats 4000000 in
set_option maxRecDepth 100000 in
theorem matches_any (v : Value) (L : List Lb) (w : World) (hs : Sp LbR 2 w v L) (h0 : L.length ≤ 10) : Calls Tryz.prog 33 #[v] w fun e w' => ∃ v', e = .returned v' ∧ Ow MtR 3 70 w.heap.size w' v' (asM L) ∧ Below w.heap.size w w' := by
  obtain ⟨n, hn⟩ : ∃ n, L.length = n := ⟨_, rfl⟩
  obtain ⟨ao, c, rfl, hnc, hc⟩ := hs.shapeN hn
  have HN := Lib.hid hn
  have hn10 : n ≤ 10 := by omega
  have HS := Lib.hid hs
  clear hn hs h0
  go_enter Tryz.func33, Tryz.ntmps33
  go_wp2_with fail
  go_loopw [3, 8] (fun u i wr => ∃ (k : Nat), k ≤ n ∧ i = .int .i64 k ∧ Hid (Ow MtR 3 70 w.heap.size wr u (asM (L.take k))) ∧ Below w.heap.size w wr) (fun _ i _ => n - (intOf i).toNat)
  case atStart => exact ⟨0, Nat.zero_le _, rfl, Lib.hid Ow.nil, Below.refl _ _⟩
  case round =>
    obtain ⟨k, hk, rfl, HO, hbel⟩ := hrel
    have hsz := hbel.size
    by_cases hlt : k < n
    case neg =>
      obtain rfl : k = n := by omega
      have HO2 : Hid (Ow MtR 3 70 w.heap.size wr u3 (asM L)) := Lib.hid (by have := HO.out; rwa [List.take_of_length_le (by rw [HN.out]; exact Nat.le_refl _)] at this)
      go_wp2_with fail
      go_ret
      exact ⟨_, rfl, HO2.out, hbel⟩
    obtain ⟨x, hx⟩ : ∃ x, L[k]? = some x := ⟨_, List.getElem?_eq_getElem (by rw [HN.out]; exact hlt)⟩
    obtain ⟨b, off, cs, rfl, ⟨rfl, hl1, hl2⟩, _, hck⟩ := (HS.out.below lbR_mono hbel).get hx
    have HX := Lib.hid hx
    have c0 := hck 0 _ rfl
    have c1 := hck 1 _ rfl
    rw [Nat.add_zero] at c0
    have HPL : Hid ((asM (L.take k)).length = k) := Lib.hid (by rw [asM_len, List.length_take, HN.out]; omega)
    obtain ⟨uo, uc, rfl, hu1, hu2⟩ := Sp.shapeN HO.out.sp HPL.out
    obtain ⟨P, hP1, hP2, hP3, hP4⟩ := HO.out
    rw [HPL.out] at hP4
    have HPP := Lib.hid (And.intro hP1 (And.intro hP2 hP3))
    have HOW := Lib.hid hP4
    have HMR : Hid (MtR w ⟨1, x.nm, x.vl⟩ [.int .i64 1, .string (mkS x.nm), .string (mkS x.vl)]) := Lib.hid ⟨rfl, hl1, hl2, (by decide : (-9223372036854775808 : Int) ≤ 1), (by decide : (1 : Int) < 9223372036854775808)⟩
    obtain ⟨Sn, hSn⟩ : ∃ S, S = mkS x.nm := ⟨_, rfl⟩
    obtain ⟨V, hV⟩ : ∃ S, S = mkS x.vl := ⟨_, rfl⟩
    rw [← hSn, ← hV] at HMR
    rw [← hSn] at c0
    rw [← hV] at c1
    clear hck hx hP1 hP2 hP3 hP4 hSn hV hl1 hl2
    go_upto_region 5 with (fail)
    obtain ⟨wA, hwA⟩ : ∃ wA, wA = wr.alloc (Obj.cells #[.string Sn, .string V] 72) := ⟨_, rfl⟩
    have hbox : wA.heap[wr.heap.size]? = some (.cells #[.string Sn, .string V] 72 (0, 0)) := by rw [hwA]; exact heap_alloc_new wr _
    have hbA : Below wr.heap.size wr wA := by rw [hwA]; exact (Below.refl _ _).alloc (Nat.le_refl _) _
    rw [← hwA]
    have HBA := Lib.hid (hbel.trans (hbA.mono hsz))
    have hO4 : wA.ownsRow w.heap.size 70 3 (.slice uo k uc) k (pc P) := own_below HOW.out hbA
    obtain ⟨⟨d0, d1⟩, -⟩ := bx2 hbox
    generalize wr.heap.size = bx at *
    clear hwA hbox hbA c0 c1
    go_wp2_with (at_builtin; refine append1 [.int .i64 1, .string Sn, .string V] elMt rfl _ _ rfl hO4 HBA.out HBA.out.size rfl rfl rfl (by intro x hx; simp at hx; rcases hx with rfl | rfl | rfl <;> rfl) ?c4 ?c5 ?_)
    case c4 => omega
    case c5 => omega
    intro v5 w5 hown5 hbel5 hgr5
    have HON : Hid (Ow MtR 3 70 w.heap.size w5 v5 (asM (L.take (k + 1)))) := Lib.hid (by
      rw [asM_take HX.out]
      exact Ow.snoc (w := wA) (mtR_grow _ _ _) HPP.out.1 HPP.out.2.1 (fun q hq => HPP.out.2.2 q hq) hO4 HPL.out.symm hgr5 hown5 rfl HMR.out)
    have HB5 := Lib.hid hbel5
    obtain ⟨vo, vc, rfl, -, -, -⟩ := own_shape hown5
    clear hO4 hown5 hgr5 hbel5 d0 d1
    go_wp2_with fail
    go_roundw
    case rel => exact ⟨k + 1, by omega, by go_num, HON, HB5.out⟩
    case measure => simp [intOf]; omega
set_option maxHeartbeats 4000000 in
set_option maxRecDepth 100000 in
theorem asmatches_any (v : Value) (L : List Lb) (w : World) (hs : Sp LbR 2 w v L) (h0 : L.length ≤ 10) : Calls Tryz.prog 36 #[v] w fun e w' => ∃ v', e = .returned v' ∧ Ow MtR 3 70 w.heap.size w' v' (asM L) ∧ Below w.heap.size w w' := by
  obtain ⟨n, hn⟩ : ∃ n, L.length = n := ⟨_, rfl⟩
  obtain ⟨ao, c, rfl, hnc, hc⟩ := hs.shapeN hn
  have HN := Lib.hid hn
  have hn10 : n ≤ 10 := by omega
  have HS := Lib.hid hs
  clear hn hs h0
  go_enter Tryz.func36, Tryz.ntmps36
  go_wp2_with fail
  go_loopw [3, 8] (fun u i wr => ∃ (k : Nat), k ≤ n ∧ i = .int .i64 k ∧ Hid (Ow MtR 3 70 w.heap.size wr u (asM (L.take k))) ∧ Below w.heap.size w wr) (fun _ i _ => n - (intOf i).toNat)
  case atStart => exact ⟨0, Nat.zero_le _, rfl, Lib.hid Ow.nil, Below.refl _ _⟩
  case round =>
    obtain ⟨k, hk, rfl, HO, hbel⟩ := hrel
    have hsz := hbel.size
    by_cases hlt : k < n
    case neg =>
      obtain rfl : k = n := by omega
      have HO2 : Hid (Ow MtR 3 70 w.heap.size wr u3 (asM L)) := Lib.hid (by have := HO.out; rwa [List.take_of_length_le (by rw [HN.out]; exact Nat.le_refl _)] at this)
      go_wp2_with fail
      go_ret
      exact ⟨_, rfl, HO2.out, hbel⟩
    obtain ⟨x, hx⟩ : ∃ x, L[k]? = some x := ⟨_, List.getElem?_eq_getElem (by rw [HN.out]; exact hlt)⟩
    obtain ⟨b, off, cs, rfl, ⟨rfl, hl1, hl2⟩, _, hck⟩ := (HS.out.below lbR_mono hbel).get hx
    have HX := Lib.hid hx
    have c0 := hck 0 _ rfl
    have c1 := hck 1 _ rfl
    rw [Nat.add_zero] at c0
    have HPL : Hid ((asM (L.take k)).length = k) := Lib.hid (by rw [asM_len, List.length_take, HN.out]; omega)
    obtain ⟨uo, uc, rfl, hu1, hu2⟩ := Sp.shapeN HO.out.sp HPL.out
    obtain ⟨P, hP1, hP2, hP3, hP4⟩ := HO.out
    rw [HPL.out] at hP4
    have HPP := Lib.hid (And.intro hP1 (And.intro hP2 hP3))
    have HOW := Lib.hid hP4
    have HMR : Hid (MtR w ⟨1, x.nm, x.vl⟩ [.int .i64 1, .string (mkS x.nm), .string (mkS x.vl)]) := Lib.hid ⟨rfl, hl1, hl2, (by decide : (-9223372036854775808 : Int) ≤ 1), (by decide : (1 : Int) < 9223372036854775808)⟩
    obtain ⟨Sn, hSn⟩ : ∃ S, S = mkS x.nm := ⟨_, rfl⟩
    obtain ⟨V, hV⟩ : ∃ S, S = mkS x.vl := ⟨_, rfl⟩
    rw [← hSn, ← hV] at HMR
    rw [← hSn] at c0
    rw [← hV] at c1
    clear hck hx hP1 hP2 hP3 hP4 hSn hV hl1 hl2
    go_upto_region 5 with (fail)
    obtain ⟨wA, hwA⟩ : ∃ wA, wA = wr.alloc (Obj.cells #[.string Sn, .string V] 72) := ⟨_, rfl⟩
    have hbox : wA.heap[wr.heap.size]? = some (.cells #[.string Sn, .string V] 72 (0, 0)) := by rw [hwA]; exact heap_alloc_new wr _
    have hbA : Below wr.heap.size wr wA := by rw [hwA]; exact (Below.refl _ _).alloc (Nat.le_refl _) _
    rw [← hwA]
    have HBA := Lib.hid (hbel.trans (hbA.mono hsz))
    have hO4 : wA.ownsRow w.heap.size 70 3 (.slice uo k uc) k (pc P) := own_below HOW.out hbA
    obtain ⟨⟨d0, d1⟩, -⟩ := bx2 hbox
    generalize wr.heap.size = bx at *
    clear hwA hbox hbA c0 c1
    go_wp2_with (at_builtin; refine append1 [.int .i64 1, .string Sn, .string V] elMt rfl _ _ rfl hO4 HBA.out HBA.out.size rfl rfl rfl (by intro x hx; simp at hx; rcases hx with rfl | rfl | rfl <;> rfl) ?c4 ?c5 ?_)
    case c4 => omega
    case c5 => omega
    intro v5 w5 hown5 hbel5 hgr5
    have HON : Hid (Ow MtR 3 70 w.heap.size w5 v5 (asM (L.take (k + 1)))) := Lib.hid (by
      rw [asM_take HX.out]
      exact Ow.snoc (w := wA) (mtR_grow _ _ _) HPP.out.1 HPP.out.2.1 (fun q hq => HPP.out.2.2 q hq) hO4 HPL.out.symm hgr5 hown5 rfl HMR.out)
    have HB5 := Lib.hid hbel5
    obtain ⟨vo, vc, rfl, -, -, -⟩ := own_shape hown5
    clear hO4 hown5 hgr5 hbel5 d0 d1
    go_wp2_with fail
    go_roundw
    case rel => exact ⟨k + 1, by omega, by go_num, HON, HB5.out⟩
    case measure => simp [intOf]; omega
/-- The text, or the fault. -/
def txP (w : World) (F : Int) (t : By) (e : Ending) (w' : World) : Prop := e = .returned (.tuple #[.string (mkS (if F = 0 then t else [])), .int .i64 F]) ∧ Below w.heap.size w w'
set_option maxHeartbeats 4000000 in
set_option maxRecDepth 100000 in
theorem text2_any (v : Value) (L : List Lb) (w : World) (hs : Sp LbR 2 w v L) (hT : STab w) : Calls Tryz.prog 7 #[v] w (txP w (labelF L) (textM (asM L))) := by
  obtain ⟨n, hn⟩ : ∃ n, L.length = n := ⟨_, rfl⟩
  obtain ⟨ao, c, rfl, hnc, hc⟩ := hs.shapeN hn
  have HS := Lib.hid hs
  have HC := Lib.hid (lbcheck_any _ L w hs)
  obtain ⟨E, hE⟩ : ∃ E, labelF L = E := ⟨_, rfl⟩
  rw [hE] at HC ⊢
  have HE := Lib.hid hE
  have HT := Lib.hid hT
  obtain ⟨R, hR⟩ : ∃ R, R = textM (asM L) := ⟨_, rfl⟩
  rw [← hR]
  have HR := Lib.hid hR
  clear hE hs hn hT hR
  by_cases hz : E = 0
  case neg =>
    have t1 : (E != 0) = true := by rw [bne_iff_ne]; exact hz
    have HZ := Lib.hid hz
    clear hz
    go_enter Tryz.func7, Tryz.ntmps7
    go_wp2_with (go_at_call 10; refine HC.out.mono ?_; rintro e w1 ⟨rfl, hb1⟩)
    go_ret2
    exact ⟨by rw [if_neg HZ.out]; rfl, hb1⟩
  subst hz
  have h10 := labelF_len HE.out
  have HM := Lib.hid (fun w1 (hb : Below w.heap.size w w1) => matches_any (.slice ao n c) L w1 (HS.out.below lbR_mono hb) h10)
  clear h10
  go_enter Tryz.func7, Tryz.ntmps7
  go_wp2_with (go_at_call 10; refine HC.out.mono ?_; rintro e w1 ⟨rfl, hb1⟩)
  refine (HM.out w1 hb1).mono ?_
  rintro e w2 ⟨v2, rfl, ho2, hb2⟩
  have HX := Lib.hid (text_any v2 (asM L) w2 ho2.sp (labelF_match HE.out) ((HT.out.below hb1).below hb2))
  have HB := Lib.hid (hb1.trans (hb2.mono hb1.size))
  obtain ⟨vo, vc, rfl, -, -⟩ := ho2.shape
  rw [← HR.out] at HX
  clear ho2 hb1 hb2
  go_wp2_with (go_at_call 32; refine HX.out.mono ?_; rintro e w3 ⟨rfl, hb3⟩; have HB3 := Lib.hid hb3; clear hb3)
  go_ret2
  exact ⟨by rw [if_pos rfl]; rfl, HB.out.trans (HB3.out.mono HB.out.size)⟩
set_option maxHeartbeats 4000000 in
set_option maxRecDepth 100000 in
theorem mtt_any (v : Value) (M : List Mt) (w : World) (hs : Sp MtR 3 w v M) (hT : STab w) : Calls Tryz.prog 25 #[v] w (txP w (matchF M) (textM M)) := by
  obtain ⟨n, hn⟩ : ∃ n, M.length = n := ⟨_, rfl⟩
  obtain ⟨ao, c, rfl, hnc, hc⟩ := hs.shapeN hn
  have HS := Lib.hid hs
  have HC := Lib.hid (mtcheck_any _ M w hs)
  obtain ⟨E, hE⟩ : ∃ E, matchF M = E := ⟨_, rfl⟩
  rw [hE] at HC ⊢
  have HE := Lib.hid hE
  have HT := Lib.hid hT
  obtain ⟨R, hR⟩ : ∃ R, R = textM M := ⟨_, rfl⟩
  rw [← hR]
  have HR := Lib.hid hR
  clear hE hs hn hT hR
  by_cases hz : E = 0
  case neg =>
    have t1 : (E != 0) = true := by rw [bne_iff_ne]; exact hz
    have HZ := Lib.hid hz
    clear hz
    go_enter Tryz.func25, Tryz.ntmps25
    go_wp2_with (go_at_call 54; refine HC.out.mono ?_; rintro e w1 ⟨rfl, hb1⟩)
    go_ret2
    exact ⟨by rw [if_neg HZ.out]; rfl, hb1⟩
  subst hz
  have HX := Lib.hid (fun w1 (hb : Below w.heap.size w w1) => text_any (.slice ao n c) M w1 (HS.out.below mtR_mono hb) HE.out (HT.out.below hb))
  rw [← HR.out] at HX
  go_enter Tryz.func25, Tryz.ntmps25
  go_wp2_with (go_at_call 54; refine HC.out.mono ?_; rintro e w1 ⟨rfl, hb1⟩)
  refine (HX.out w1 hb1).mono ?_
  rintro e w3 ⟨rfl, hb3⟩
  have HB := Lib.hid (hb1.trans (hb3.mono hb1.size))
  clear hb1 hb3
  go_wp2_with fail
  go_ret2
  exact ⟨by rw [if_pos rfl]; rfl, HB.out⟩
set_option maxHeartbeats 4000000 in
set_option maxRecDepth 100000 in
theorem lbtext_any (v : Value) (L : List Lb) (w : World) (hs : Sp LbR 2 w v L) (h0 : labelF L = 0) : Calls Tryz.prog 11 #[v] w fun e w' => e = .returned (.string (mkS (textM (asM L)))) ∧ Below w.heap.size w w' := by
  have h10 := labelF_len h0
  have HM := Lib.hid (asmatches_any v L w hs h10)
  have HE := Lib.hid h0
  obtain ⟨ao, c, rfl, -, -⟩ := hs.shape
  obtain ⟨R, hR⟩ : ∃ R, R = textM (asM L) := ⟨_, rfl⟩
  rw [← hR]
  have HR := Lib.hid hR
  clear hs h10 h0 hR
  go_enter Tryz.func11, Tryz.ntmps11
  go_wp2_with fail
  refine HM.out.mono ?_
  rintro e w2 ⟨v2, rfl, ho2, hb2⟩
  have HX := Lib.hid (mtext_any v2 (asM L) w2 ho2.sp (labelF_match HE.out))
  have HB := Lib.hid hb2
  obtain ⟨vo, vc, rfl, -, -⟩ := ho2.shape
  rw [← HR.out] at HX
  clear ho2 hb2
  go_wp2_with (go_at_call 28; refine HX.out.mono ?_; rintro e w3 ⟨rfl, hb3⟩; have HB3 := Lib.hid hb3; clear hb3)
  go_ret
  exact ⟨rfl, HB.out.trans (HB3.out.mono HB.out.size)⟩
end Go.Proofs.YtlfhcjhbnakamaaGreatDoor.Lab
/-
  Contracts of the library at this program, laid by the kit's own tool (in plain words).
-/
namespace Go.Proofs
open Go.Shelf
def YtlfhcjhbnakamaaGreatDoor.lays119_ren : Go.Shelf.Ren := ⟨fun | 119 => 96 | n => n, fun | 21 => 21 | 4 => 4 | n => n, fun | n => n⟩
theorem YtlfhcjhbnakamaaGreatDoor.lays119 : Go.Proofs.Lays.n119 Tryz.prog YtlfhcjhbnakamaaGreatDoor.lays119_ren := {
  mixed := by kernel_rfl
  f119 := Tryz.func96.trans (congrArg some (by kernel_rfl))
  t4 := Tryz.underlying4
  a4 := Tryz.isAgg4
  z4 := Tryz.sizeOf4
  v4 := Tryz.zeroValue4
  t21 := Tryz.underlying21
  a21 := Tryz.isAgg21
  z21 := Tryz.sizeOf21
  v21 := Tryz.zeroValue21 }
theorem YtlfhcjhbnakamaaGreatDoor.utf8_ValidRune (r : Int) (w : World) :
    Calls Tryz.prog 96 #[.int .i32 r] w fun e w' => e = .returned (.bool (Lib.validRune r)) ∧ w' = w := Any.utf8_ValidRune YtlfhcjhbnakamaaGreatDoor.lays119 r w
def YtlfhcjhbnakamaaGreatDoor.lays137_ren : Go.Shelf.Ren := ⟨fun | 137 => 95 | 217 => 109 | 266 => 119 | n => n, fun | 9 => 9 | 5 => 5 | 3 => 3 | n => n, fun | n => n⟩
theorem YtlfhcjhbnakamaaGreatDoor.lays137 : Go.Proofs.Lays.n137 Tryz.prog YtlfhcjhbnakamaaGreatDoor.lays137_ren := {
  mixed := by kernel_rfl
  f137 := Tryz.func95.trans (congrArg some (by kernel_rfl))
  f217 := Tryz.func109.trans (congrArg some (by kernel_rfl))
  f266 := Tryz.func119.trans (congrArg some (by kernel_rfl))
  t3 := Tryz.underlying3
  a3 := Tryz.isAgg3
  z3 := Tryz.sizeOf3
  v3 := Tryz.zeroValue3
  t5 := Tryz.underlying5
  a5 := Tryz.isAgg5
  z5 := Tryz.sizeOf5
  v5 := Tryz.zeroValue5
  t9 := Tryz.underlying9
  a9 := Tryz.isAgg9
  z9 := Tryz.sizeOf9
  v9 := Tryz.zeroValue9 }
open Go.RowKit in
theorem YtlfhcjhbnakamaaGreatDoor.strings_IndexByte (s : ByteArray) (c : Int) (w : World) :
    Calls Tryz.prog 95 #[.string s, .int .u8 c] w fun e w' => e = .returned (.int .i64 (Lib.indexByte s.data.toList c.toNat.toUInt8)) ∧ w' = w := Any.strings_IndexByte YtlfhcjhbnakamaaGreatDoor.lays137 s c w
def YtlfhcjhbnakamaaGreatDoor.lays152_ren : Go.Shelf.Ren := ⟨fun | 152 => 82 | 137 => 95 | 119 => 96 | 224 => 97 | 225 => 98 | 217 => 109 | 266 => 119 | n => n, fun | 9 => 9 | 21 => 21 | 3 => 3 | 4 => 4 | 5 => 5 | 0 => 0 | 46 => 102 | n => n, fun | n => n⟩
theorem YtlfhcjhbnakamaaGreatDoor.lays152 : Go.Proofs.Lays.n152 Tryz.prog YtlfhcjhbnakamaaGreatDoor.lays152_ren := {
  mixed := by kernel_rfl
  f119 := Tryz.func96.trans (congrArg some (by kernel_rfl))
  f137 := Tryz.func95.trans (congrArg some (by kernel_rfl))
  f152 := Tryz.func82.trans (congrArg some (by kernel_rfl))
  f217 := Tryz.func109.trans (congrArg some (by kernel_rfl))
  f224 := Tryz.func97.trans (congrArg some (by kernel_rfl))
  f225 := Tryz.func98.trans (congrArg some (by kernel_rfl))
  f266 := Tryz.func119.trans (congrArg some (by kernel_rfl))
  t0 := Tryz.underlying0
  a0 := Tryz.isAgg0
  z0 := Tryz.sizeOf0
  v0 := Tryz.zeroValue0
  t3 := Tryz.underlying3
  a3 := Tryz.isAgg3
  z3 := Tryz.sizeOf3
  v3 := Tryz.zeroValue3
  t4 := Tryz.underlying4
  a4 := Tryz.isAgg4
  z4 := Tryz.sizeOf4
  v4 := Tryz.zeroValue4
  t5 := Tryz.underlying5
  a5 := Tryz.isAgg5
  z5 := Tryz.sizeOf5
  v5 := Tryz.zeroValue5
  t9 := Tryz.underlying9
  a9 := Tryz.isAgg9
  z9 := Tryz.sizeOf9
  v9 := Tryz.zeroValue9
  t21 := Tryz.underlying21
  a21 := Tryz.isAgg21
  z21 := Tryz.sizeOf21
  v21 := Tryz.zeroValue21
  t46 := Tryz.underlying102
  a46 := Tryz.isAgg102
  z46 := Tryz.sizeOf102
  v46 := Tryz.zeroValue102 }
open Go.RowKit Go.Lib in
theorem YtlfhcjhbnakamaaGreatDoor.strings_IndexRune_ascii (s : ByteArray) (r : Int) (w : World) (h0 : 0 ≤ r) (h1 : r < 128) :
    Calls Tryz.prog 82 #[.string s, .int .i32 r] w fun e w' => e = .returned (.int .i64 (Lib.indexByte s.data.toList r.toNat.toUInt8)) ∧ w' = w := Any.strings_IndexRune_ascii YtlfhcjhbnakamaaGreatDoor.lays152 s r w h0 h1
def YtlfhcjhbnakamaaGreatDoor.lays226_ren : Go.Shelf.Ren := ⟨fun | 226 => 83 | n => n, fun | 3 => 3 | 4 => 4 | n => n, fun | n => n⟩
theorem YtlfhcjhbnakamaaGreatDoor.lays226 : Go.Proofs.Lays.n226 Tryz.prog YtlfhcjhbnakamaaGreatDoor.lays226_ren := {
  mixed := by kernel_rfl
  f226 := Tryz.func83.trans (congrArg some (by kernel_rfl))
  t3 := Tryz.underlying3
  a3 := Tryz.isAgg3
  z3 := Tryz.sizeOf3
  v3 := Tryz.zeroValue3
  t4 := Tryz.underlying4
  a4 := Tryz.isAgg4
  z4 := Tryz.sizeOf4
  v4 := Tryz.zeroValue4 }
open Go.RowKit Go.Lib in
theorem YtlfhcjhbnakamaaGreatDoor.strings_shouldUseASCIISet (n : Int) (w : World) :
    Calls Tryz.prog 83 #[.int .i64 n] w fun e w' => e = .returned (.bool (decide (8 < n))) ∧ w' = w := Any.strings_shouldUseASCIISet YtlfhcjhbnakamaaGreatDoor.lays226 n w
def YtlfhcjhbnakamaaGreatDoor.lays153_ren : Go.Shelf.Ren := ⟨fun | 153 => 71 | 152 => 82 | 226 => 83 | 227 => 84 | 228 => 85 | 137 => 95 | 119 => 96 | 224 => 97 | 225 => 98 | 217 => 109 | 266 => 119 | n => n, fun | 9 => 9 | 3 => 3 | 4 => 4 | 5 => 5 | 21 => 21 | 117 => 121 | 116 => 120 | 0 => 0 | 46 => 102 | 124 => 150 | n => n, fun | n => n⟩
theorem YtlfhcjhbnakamaaGreatDoor.lays153 : Go.Proofs.Lays.n153 Tryz.prog YtlfhcjhbnakamaaGreatDoor.lays153_ren := {
  mixed := by kernel_rfl
  f119 := Tryz.func96.trans (congrArg some (by kernel_rfl))
  f137 := Tryz.func95.trans (congrArg some (by kernel_rfl))
  f152 := Tryz.func82.trans (congrArg some (by kernel_rfl))
  f153 := Tryz.func71.trans (congrArg some (by kernel_rfl))
  f217 := Tryz.func109.trans (congrArg some (by kernel_rfl))
  f224 := Tryz.func97.trans (congrArg some (by kernel_rfl))
  f225 := Tryz.func98.trans (congrArg some (by kernel_rfl))
  f226 := Tryz.func83.trans (congrArg some (by kernel_rfl))
  f227 := Tryz.func84.trans (congrArg some (by kernel_rfl))
  f228 := Tryz.func85.trans (congrArg some (by kernel_rfl))
  f266 := Tryz.func119.trans (congrArg some (by kernel_rfl))
  t0 := Tryz.underlying0
  a0 := Tryz.isAgg0
  z0 := Tryz.sizeOf0
  v0 := Tryz.zeroValue0
  t3 := Tryz.underlying3
  a3 := Tryz.isAgg3
  z3 := Tryz.sizeOf3
  v3 := Tryz.zeroValue3
  t4 := Tryz.underlying4
  a4 := Tryz.isAgg4
  z4 := Tryz.sizeOf4
  v4 := Tryz.zeroValue4
  t5 := Tryz.underlying5
  a5 := Tryz.isAgg5
  z5 := Tryz.sizeOf5
  v5 := Tryz.zeroValue5
  t9 := Tryz.underlying9
  a9 := Tryz.isAgg9
  z9 := Tryz.sizeOf9
  v9 := Tryz.zeroValue9
  t21 := Tryz.underlying21
  a21 := Tryz.isAgg21
  z21 := Tryz.sizeOf21
  v21 := Tryz.zeroValue21
  t46 := Tryz.underlying102
  a46 := Tryz.isAgg102
  z46 := Tryz.sizeOf102
  v46 := Tryz.zeroValue102
  t116 := Tryz.underlying120
  a116 := Tryz.isAgg120
  z116 := Tryz.sizeOf120
  t117 := Tryz.underlying121
  a117 := Tryz.isAgg121
  z117 := Tryz.sizeOf121
  v117 := Tryz.zeroValue121
  t124 := Tryz.underlying150
  a124 := Tryz.isAgg150
  z124 := Tryz.sizeOf150
  v124 := Tryz.zeroValue150 }
open Go.RowKit Go.Lib in
theorem YtlfhcjhbnakamaaGreatDoor.strings_IndexAny_long (hv116 : ∀ w, (zeroValue 120).run Tryz.prog w = .ok (.agg (Array.replicate 256 (.bool false))) w) (s chars : ByteArray) (w : World) (h2 : 2 ≤ chars.size) (h8 : 8 < s.size) (hs : s.size < 4294967281) (hcs : chars.size < 4294967281) (hascii : ∀ (j : Nat) b, chars.data.toList[j]? = some b → b.toNat < 128) :
    Calls Tryz.prog 71 #[.string s, .string chars] w fun e w' => e = .returned (.int .i64 (Lib.indexAny s.data.toList chars.data.toList)) ∧ w' = ((w.alloc (.cells (Lib.setCells chars.data.toList) 120)).alloc (.cells (Lib.setCells chars.data.toList) 120)) := Any.strings_IndexAny_long YtlfhcjhbnakamaaGreatDoor.lays153 hv116 (by kernel_rfl) s chars w h2 h8 hs hcs hascii
end Go.Proofs
