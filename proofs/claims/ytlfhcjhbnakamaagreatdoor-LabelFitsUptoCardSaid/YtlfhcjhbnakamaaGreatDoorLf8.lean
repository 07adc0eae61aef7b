/-
  Labels: the walk of unquoted.
-/
import Derived.Test.YtlfhcjhbnakamaaGreatDoorLf1
import Derived.Test.YtlfhcjhbnakamaaGreatDoorLf4
import Derived.Test.YtlfhcjhbnakamaaGreatDoorLf7
import Derived.Deep.QuietTactic
import Derived.BigQuiet
import Derived.Shelf.Lay
import Derived.Shelf.LaySoft
import Derived.Shelf.LaysM
import Derived.Shelf.Small.Utf8
import Derived.Shelf.Small.Wraps
import Derived.Shelf.Strings.Runes
import Derived.Shelf.Strings.IndexAny
import Derived.Shelf.Strings.AsciiSet
import Derived.Shelf.Strings.IndexAnyAll
import Derived.Shelf.Small.Strs
import Derived.Shelf.Strings.Search1
import Derived.Test.YtlfhcjhbnakamaaGreatDoorProg
import Derived.Laws.RangeAny
import Derived.Laws.Runes
import Derived.Deep.LoopGhost
import Derived.Lib.IndexAny
import Derived.Lib.OthersKept
import Derived.WalkMore
import Derived.BigRegion
namespace Go.Proofs.YtlfhcjhbnakamaaGreatDoor.Lab
open Go.RowKit Go.Gh
set_option linter.unusedVariables false
set_option linter.unusedSimpArgs false
def bI (l : By) : List Int := l.map fun b => (b.toNat : Int)
theorem bstr_bI (l : By) : bstr (bI l) = mkS l := by
  unfold bstr bI mkS
  rw [List.map_map]
  congr 2
  conv => rhs; rw [← List.map_id l]
  refine List.map_congr_left fun b _ => ?_
  simp
theorem bI_snoc (l : By) (b : UInt8) : (bI (l ++ [b])).map (Value.int .u8) = (bI l).map (Value.int .u8) ++ [.int .u8 (b.toNat : Int)] := by
  unfold bI
  rw [List.map_append, List.map_append]
  rfl
theorem bI_snocE (l : By) (b : UInt8) (m : Nat) (h : b.toNat = m) : (bI (l ++ [b])).map (Value.int .u8) = (bI l).map (Value.int .u8) ++ [.int .u8 (m : Int)] := by
  rw [bI_snoc, h]
def unV (r : Option (By × By)) : Value := match r with
  | none => .tuple #[.string (mkS []), .string (mkS []), .bool false]
  | some (v, t) => .tuple #[.string (mkS v), .string (mkS t), .bool true]
theorem drop_s {l : By} {k : Nat} {d : UInt8} (h : l[k]? = some d) : l.drop k = d :: l.drop (k + 1) := by
  obtain ⟨h1, h2⟩ := List.getElem?_eq_some_iff.1 h
  rw [List.drop_eq_getElem_cons h1, h2]
set_option maxHeartbeats 8000000 in
set_option maxRecDepth 100000 in
theorem unq_any (l : By) (w : World) (hsz : l.length ≤ 70368744177664) : Calls Tryz.prog 72 #[.string (mkS l)] w fun e w' => e = .returned (unV (unq l [])) ∧ Below w.heap.size w w' := by
  have hml := mkS_size l
  have HG := Lib.hid (mkS_get l)
  have HX := Lib.hid (fun a => mkS_ext l a l.length)
  obtain ⟨R, hR⟩ : ∃ R, unq l [] = R := ⟨_, rfl⟩
  rw [hR]
  have HR := Lib.hid hR
  clear hR
  generalize mkS l = S at hml HG HX ⊢
  obtain ⟨n, hn⟩ : ∃ n, S.size = n := ⟨_, rfl⟩
  rw [hn] at hml
  have HL := Lib.hid hml.symm
  have hn63 : n ≤ 70368744177664 := by omega
  clear hml
  go_enter Tryz.func72, Tryz.ntmps72
  go_wp2_with fail
  go_loopw [5, 6] (fun o i wr => ∃ (k q : Nat) (acc : By), k ≤ n ∧ q ≤ k ∧ i = .int .i64 k ∧ Hid (acc.length = q) ∧ Hid (wr.ownsRow w.heap.size 5 1 o q ((bI acc).map (Value.int .u8))) ∧ Hid (unq (l.drop k) acc = R) ∧ Below w.heap.size w wr) (fun _ i _ => n - (intOf i).toNat)
  case atStart => exact ⟨0, 0, [], Nat.zero_le _, Nat.le_refl _, rfl, Lib.hid rfl, Lib.hid (World.ownsRow_nil _ _ _ _), Lib.hid (by rw [List.drop_zero]; exact HR.out), Below.refl _ _⟩
  case round =>
    obtain ⟨k, q, acc, hk, hqk, rfl, HQ, HO, HU, hbel⟩ := hrel
    have hws := hbel.size
    obtain ⟨uo, uc, rfl, -, -, -⟩ := own_shape HO.out
    by_cases hlt : k < n
    case neg =>
      obtain rfl : k = n := by omega
      have HRR : Hid (R = none) := Lib.hid (by rw [← HU.out, List.drop_of_length_le (Nat.le_of_eq HL.out)]; rfl)
      go_wp2_with fail
      go_ret3
      rw [HRR.out]
      exact ⟨rfl, hbel⟩
    have hlk : k < l.length := by rw [HL.out]; exact hlt
    have hks : k < S.size := by rw [hn]; exact hlt
    obtain ⟨d, hd⟩ : ∃ d, l[k]? = some d := ⟨_, List.getElem?_eq_getElem hlk⟩
    obtain ⟨m, hm⟩ : ∃ m, d.toNat = m := ⟨_, rfl⟩
    have hgk : (S[k]'hks).toNat = m := by
      rw [HG.out k hks hlk, (List.getElem?_eq_some_iff.1 hd).2]
      exact hm
    have hun := HU.out
    rw [drop_s hd, unq_cons] at hun
    have hkn : (k : Int) + 1 ≤ (n : Int) := by omega
    have hk1t : ((k : Int) + 1).toNat = k + 1 := by omega
    have e1 : (m = 34) = (d = 34) := by rw [← hm, eq_iff_iff]; exact toNat_eq d 34
    have e2 : (m = 92) = (d = 92) := by rw [← hm, eq_iff_iff]; exact toNat_eq d 92
    by_cases g1 : m = 34
    · have HRR : Hid (R = some (acc, l.drop (k + 1))) := Lib.hid (by rw [← hun, if_pos (by rw [← e1]; exact g1)])
      have hex : S.extract (k + 1) n = mkS (l.drop (k + 1)) := by
        rw [← HL.out, HX.out, List.take_of_length_le (by rw [List.length_drop]; exact Nat.le_refl _)]
      have hcv := fun j => run_bytes (dst := 9) Tryz.underlying45 Tryz.underlying5 Tryz.underlying9 ((own_sl HO.out).below (below_drewN (Below.refl _ wr) j))
      rw [bstr_bI] at hcv
      clear e1 e2 hun hd hm hlk
      have HF : Hid (unV R = .tuple #[.string (mkS acc), .string (mkS (l.drop (k + 1))), .bool true]) := Lib.hid (by rw [HRR.out]; rfl)
      generalize mkS acc = A at *
      generalize l.drop (k + 1) = D at *
      have hwk : IntKind.i64.wrap ((k : Int) + 1) = (k : Int) + 1 := IntWalk.i64_in _ (by omega)
      go_wp2_with fail
      go_quiet (fail)
      go_wp2_with fail
      go_ret3
      rw [HF.out]
      exact ⟨rfl, below_drewN hbel _⟩
    by_cases g2 : m = 92
    case neg =>
      have hun2 : unq (l.drop (k + 1)) (acc ++ [d]) = R := by
        rw [if_neg (by rw [← e1]; exact g1), if_neg (by rw [← e2]; exact g2)] at hun
        exact hun
      have HU2 := Lib.hid hun2
      have HQ2 : Hid ((acc ++ [d]).length = q + 1) := Lib.hid (by rw [List.length_append, HQ.out]; rfl)
      have HCS := Lib.hid (bI_snocE acc d m hm)
      have hown := HO.out
      clear e1 e2 hun hd hm hlk hun2
      go_wp2_with (at_builtin; refine append1 [_] Bits.elU8 rfl _ _ rfl hown hbel hbel.size rfl rfl rfl (one_all _ rfl) ?c4 ?c5 ?_)
      case c4 => omega
      case c5 => omega
      intro v5 w5 hown5 hbel5 hgr5
      have HO5 : Hid (w5.ownsRow w.heap.size 5 1 v5 (q + 1) ((bI (acc ++ [d])).map (Value.int .u8))) := Lib.hid (by rw [HCS.out]; exact hown5)
      have HB5 := Lib.hid hbel5
      obtain ⟨vo, vc, rfl, -, -, -⟩ := own_shape hown5
      clear hown hown5 hgr5 hbel5 hbel
      go_wp2_with fail
      go_roundw
      case rel => exact ⟨k + 1, q + 1, acc ++ [d], by omega, by omega, by go_num, HQ2, HO5, HU2, HB5.out⟩
      case measure => simp [intOf]; omega
    subst g2
    by_cases hlt2 : k + 1 < n
    case neg =>
      have HRR : Hid (R = none) := Lib.hid (by
        rw [← hun, if_neg (by rw [← e1]; exact g1), if_pos (by rw [← e2])]
        have : l.drop (k + 1) = [] := List.drop_of_length_le (by rw [HL.out]; omega)
        rw [this])
      have hk1 : ¬ (k : Int) + 1 < (n : Int) := by omega
      clear e1 e2 hun hd hm hlk g1
      go_wp2_with fail
      go_ret3
      rw [HRR.out]
      exact ⟨rfl, hbel⟩
    have hlk2 : k + 1 < l.length := by rw [HL.out]; exact hlt2
    have hks2 : k + 1 < S.size := by rw [hn]; exact hlt2
    have hlt2i : (k : Int) + 1 < (n : Int) := by omega
    obtain ⟨c, hc⟩ : ∃ d, l[k + 1]? = some d := ⟨_, List.getElem?_eq_getElem hlk2⟩
    obtain ⟨z, hz⟩ : ∃ m, c.toNat = m := ⟨_, rfl⟩
    have hgz : (S[k + 1]'hks2).toNat = z := by
      rw [HG.out (k + 1) hks2 hlk2, (List.getElem?_eq_some_iff.1 hc).2]
      exact hz
    have e3 : (z = 110) = (c = 110) := by rw [← hz, eq_iff_iff]; exact toNat_eq c 110
    have hun3 : unq (l.drop (k + 1 + 1)) (acc ++ [if c = 110 then 10 else c]) = R := by
      rw [if_neg (by rw [← e1]; exact g1), if_pos (by rw [← e2]), drop_s hc] at hun
      exact hun
    by_cases g3 : z = 110
    · subst g3
      rw [if_pos (by rw [← e3])] at hun3
      have HU2 := Lib.hid hun3
      have HQ2 : Hid ((acc ++ [10]).length = q + 1) := Lib.hid (by rw [List.length_append, HQ.out]; rfl)
      have HCS := Lib.hid (bI_snocE acc 10 10 rfl)
      have hown := HO.out
      clear e1 e2 e3 hun hd hm hlk hun3 hc hz g1 hlk2
      go_wp2_with (at_builtin; refine append1 [_] Bits.elU8 rfl _ _ rfl hown hbel hbel.size rfl rfl rfl (one_all _ rfl) ?c4 ?c5 ?_)
      case c4 => omega
      case c5 => omega
      intro v5 w5 hown5 hbel5 hgr5
      have HO5 : Hid (w5.ownsRow w.heap.size 5 1 v5 (q + 1) ((bI (acc ++ [10])).map (Value.int .u8))) := Lib.hid (by rw [HCS.out]; exact hown5)
      have HB5 := Lib.hid hbel5
      obtain ⟨vo, vc, rfl, -, -, -⟩ := own_shape hown5
      clear hown hown5 hgr5 hbel5 hbel
      go_wp2_with fail
      go_roundw
      case rel => exact ⟨k + 1 + 1, q + 1, acc ++ [10], by omega, by omega, by go_num, HQ2, HO5, HU2, HB5.out⟩
      case measure => simp [intOf]; omega
    · rw [if_neg (by rw [← e3]; exact g3)] at hun3
      have HU2 := Lib.hid hun3
      have HQ2 : Hid ((acc ++ [c]).length = q + 1) := Lib.hid (by rw [List.length_append, HQ.out]; rfl)
      have HCS := Lib.hid (bI_snocE acc c z hz)
      have hown := HO.out
      clear e1 e2 e3 hun hd hm hlk hun3 hc hz g1 hlk2
      go_wp2_with (at_builtin; refine append1 [_] Bits.elU8 rfl _ _ rfl hown hbel hbel.size rfl rfl rfl (one_all _ rfl) ?c4 ?c5 ?_)
      case c4 => omega
      case c5 => omega
      intro v5 w5 hown5 hbel5 hgr5
      have HO5 : Hid (w5.ownsRow w.heap.size 5 1 v5 (q + 1) ((bI (acc ++ [c])).map (Value.int .u8))) := Lib.hid (by rw [HCS.out]; exact hown5)
      have HB5 := Lib.hid hbel5
      obtain ⟨vo, vc, rfl, -, -, -⟩ := own_shape hown5
      clear hown hown5 hgr5 hbel5 hbel
      go_wp2_with fail
      go_roundw
      case rel => exact ⟨k + 1 + 1, q + 1, acc ++ [c], by omega, by omega, by go_num, HQ2, HO5, HU2, HB5.out⟩
      case measure => simp [intOf]; omega
end Go.Proofs.YtlfhcjhbnakamaaGreatDoor.Lab
/-
  Contracts of the library at this program, laid by the kit's own tool (in plain words).
-/
namespace Go.Proofs
open Go.Shelf
def YtlfhcjhbnakamaaGreatDoor.lays119_ren : Go.Shelf.Ren := ⟨fun | 119 => 96 | n => n, fun | 21 => 21 | 4 => 4 | n => n, fun | n => n⟩
theorem YtlfhcjhbnakamaaGreatDoor.lays119 : Go.Proofs.Lays.n119 Tryz.prog YtlfhcjhbnakamaaGreatDoor.lays119_ren := {
  mixed := by kernel_rfl
  f119 := Tryz.func96.trans (congrArg some (by kernel_rfl))
  t4 := Tryz.underlying4
  a4 := Tryz.isAgg4
  z4 := Tryz.sizeOf4
  v4 := Tryz.zeroValue4
  t21 := Tryz.underlying21
  a21 := Tryz.isAgg21
  z21 := Tryz.sizeOf21
  v21 := Tryz.zeroValue21 }
theorem YtlfhcjhbnakamaaGreatDoor.utf8_ValidRune (r : Int) (w : World) :
    Calls Tryz.prog 96 #[.int .i32 r] w fun e w' => e = .returned (.bool (Lib.validRune r)) ∧ w' = w := Any.utf8_ValidRune YtlfhcjhbnakamaaGreatDoor.lays119 r w
def YtlfhcjhbnakamaaGreatDoor.lays137_ren : Go.Shelf.Ren := ⟨fun | 137 => 95 | 217 => 109 | 266 => 119 | n => n, fun | 9 => 9 | 5 => 5 | 3 => 3 | n => n, fun | n => n⟩
theorem YtlfhcjhbnakamaaGreatDoor.lays137 : Go.Proofs.Lays.n137 Tryz.prog YtlfhcjhbnakamaaGreatDoor.lays137_ren := {
  mixed := by kernel_rfl
  f137 := Tryz.func95.trans (congrArg some (by kernel_rfl))
  f217 := Tryz.func109.trans (congrArg some (by kernel_rfl))
  f266 := Tryz.func119.trans (congrArg some (by kernel_rfl))
  t3 := Tryz.underlying3
  a3 := Tryz.isAgg3
  z3 := Tryz.sizeOf3
  v3 := Tryz.zeroValue3
  t5 := Tryz.underlying5
  a5 := Tryz.isAgg5
  z5 := Tryz.sizeOf5
  v5 := Tryz.zeroValue5
  t9 := Tryz.underlying9
  a9 := Tryz.isAgg9
  z9 := Tryz.sizeOf9
  v9 := Tryz.zeroValue9 }
open Go.RowKit in
theorem YtlfhcjhbnakamaaGreatDoor.strings_IndexByte (s : ByteArray) (c : Int) (w : World) :
    Calls Tryz.prog 95 #[.string s, .int .u8 c] w fun e w' => e = .returned (.int .i64 (Lib.indexByte s.data.toList c.toNat.toUInt8)) ∧ w' = w := Any.strings_IndexByte YtlfhcjhbnakamaaGreatDoor.lays137 s c w
def YtlfhcjhbnakamaaGreatDoor.lays152_ren : Go.Shelf.Ren := ⟨fun | 152 => 82 | 137 => 95 | 119 => 96 | 224 => 97 | 225 => 98 | 217 => 109 | 266 => 119 | n => n, fun | 9 => 9 | 21 => 21 | 3 => 3 | 4 => 4 | 5 => 5 | 0 => 0 | 46 => 102 | n => n, fun | n => n⟩
theorem YtlfhcjhbnakamaaGreatDoor.lays152 : Go.Proofs.Lays.n152 Tryz.prog YtlfhcjhbnakamaaGreatDoor.lays152_ren := {
  mixed := by kernel_rfl
  f119 := Tryz.func96.trans (congrArg some (by kernel_rfl))
  f137 := Tryz.func95.trans (congrArg some (by kernel_rfl))
  f152 := Tryz.func82.trans (congrArg some (by kernel_rfl))
  f217 := Tryz.func109.trans (congrArg some (by kernel_rfl))
  f224 := Tryz.func97.trans (congrArg some (by kernel_rfl))
  f225 := Tryz.func98.trans (congrArg some (by kernel_rfl))
  f266 := Tryz.func119.trans (congrArg some (by kernel_rfl))
  t0 := Tryz.underlying0
  a0 := Tryz.isAgg0
  z0 := Tryz.sizeOf0
  v0 := Tryz.zeroValue0
  t3 := Tryz.underlying3
  a3 := Tryz.isAgg3
  z3 := Tryz.sizeOf3
  v3 := Tryz.zeroValue3
  t4 := Tryz.underlying4
  a4 := Tryz.isAgg4
  z4 := Tryz.sizeOf4
  v4 := Tryz.zeroValue4
  t5 := Tryz.underlying5
  a5 := Tryz.isAgg5
  z5 := Tryz.sizeOf5
  v5 := Tryz.zeroValue5
  t9 := Tryz.underlying9
  a9 := Tryz.isAgg9
  z9 := Tryz.sizeOf9
  v9 := Tryz.zeroValue9
  t21 := Tryz.underlying21
  a21 := Tryz.isAgg21
  z21 := Tryz.sizeOf21
  v21 := Tryz.zeroValue21
  t46 := Tryz.underlying102
  a46 := Tryz.isAgg102
  z46 := Tryz.sizeOf102
  v46 := Tryz.zeroValue102 }
open Go.RowKit Go.Lib in
theorem YtlfhcjhbnakamaaGreatDoor.strings_IndexRune_ascii (s : ByteArray) (r : Int) (w : World) (h0 : 0 ≤ r) (h1 : r < 128) :
    Calls Tryz.prog 82 #[.string s, .int .i32 r] w fun e w' => e = .returned (.int .i64 (Lib.indexByte s.data.toList r.toNat.toUInt8)) ∧ w' = w := Any.strings_IndexRune_ascii YtlfhcjhbnakamaaGreatDoor.lays152 s r w h0 h1
def YtlfhcjhbnakamaaGreatDoor.lays226_ren : Go.Shelf.Ren := ⟨fun | 226 => 83 | n => n, fun | 3 => 3 | 4 => 4 | n => n, fun | n => n⟩
theorem YtlfhcjhbnakamaaGreatDoor.lays226 : Go.Proofs.Lays.n226 Tryz.prog YtlfhcjhbnakamaaGreatDoor.lays226_ren := {
  mixed := by kernel_rfl
  f226 := Tryz.func83.trans (congrArg some (by kernel_rfl))
  t3 := Tryz.underlying3
  a3 := Tryz.isAgg3
  z3 := Tryz.sizeOf3
  v3 := Tryz.zeroValue3
  t4 := Tryz.underlying4
  a4 := Tryz.isAgg4
  z4 := Tryz.sizeOf4
  v4 := Tryz.zeroValue4 }
open Go.RowKit Go.Lib in
theorem YtlfhcjhbnakamaaGreatDoor.strings_shouldUseASCIISet (n : Int) (w : World) :
    Calls Tryz.prog 83 #[.int .i64 n] w fun e w' => e = .returned (.bool (decide (8 < n))) ∧ w' = w := Any.strings_shouldUseASCIISet YtlfhcjhbnakamaaGreatDoor.lays226 n w
def YtlfhcjhbnakamaaGreatDoor.lays153_ren : Go.Shelf.Ren := ⟨fun | 153 => 71 | 152 => 82 | 226 => 83 | 227 => 84 | 228 => 85 | 137 => 95 | 119 => 96 | 224 => 97 | 225 => 98 | 217 => 109 | 266 => 119 | n => n, fun | 9 => 9 | 3 => 3 | 4 => 4 | 5 => 5 | 21 => 21 | 117 => 121 | 116 => 120 | 0 => 0 | 46 => 102 | 124 => 150 | n => n, fun | n => n⟩
theorem YtlfhcjhbnakamaaGreatDoor.lays153 : Go.Proofs.Lays.n153 Tryz.prog YtlfhcjhbnakamaaGreatDoor.lays153_ren := {
  mixed := by kernel_rfl
  f119 := Tryz.func96.trans (congrArg some (by kernel_rfl))
  f137 := Tryz.func95.trans (congrArg some (by kernel_rfl))
  f152 := Tryz.func82.trans (congrArg some (by kernel_rfl))
  f153 := Tryz.func71.trans (congrArg some (by kernel_rfl))
  f217 := Tryz.func109.trans (congrArg some (by kernel_rfl))
  f224 := Tryz.func97.trans (congrArg some (by kernel_rfl))
  f225 := Tryz.func98.trans (congrArg some (by kernel_rfl))
  f226 := Tryz.func83.trans (congrArg some (by kernel_rfl))
  f227 := Tryz.func84.trans (congrArg some (by kernel_rfl))
  f228 := Tryz.func85.trans (congrArg some (by kernel_rfl))
  f266 := Tryz.func119.trans (congrArg some (by kernel_rfl))
  t0 := Tryz.underlying0
  a0 := Tryz.isAgg0
  z0 := Tryz.sizeOf0
  v0 := Tryz.zeroValue0
  t3 := Tryz.underlying3
  a3 := Tryz.isAgg3
  z3 := Tryz.sizeOf3
  v3 := Tryz.zeroValue3
  t4 := Tryz.underlying4
  a4 := Tryz.isAgg4
  z4 := Tryz.sizeOf4
  v4 := Tryz.zeroValue4
  t5 := Tryz.underlying5
  a5 := Tryz.isAgg5
  z5 := Tryz.sizeOf5
  v5 := Tryz.zeroValue5
  t9 := Tryz.underlying9
  a9 := Tryz.isAgg9
  z9 := Tryz.sizeOf9
  v9 := Tryz.zeroValue9
  t21 := Tryz.underlying21
  a21 := Tryz.isAgg21
  z21 := Tryz.sizeOf21
  v21 := Tryz.zeroValue21
  t46 := Tryz.underlying102
  a46 := Tryz.isAgg102
  z46 := Tryz.sizeOf102
  v46 := Tryz.zeroValue102
  t116 := Tryz.underlying120
  a116 := Tryz.isAgg120
  z116 := Tryz.sizeOf120
  t117 := Tryz.underlying121
  a117 := Tryz.isAgg121
  z117 := Tryz.sizeOf121
  v117 := Tryz.zeroValue121
  t124 := Tryz.underlying150
  a124 := Tryz.isAgg150
  z124 := Tryz.sizeOf150
  v124 := Tryz.zeroValue150 }
open Go.RowKit Go.Lib in
theorem YtlfhcjhbnakamaaGreatDoor.strings_IndexAny_long (hv116 : ∀ w, (zeroValue 120).run Tryz.prog w = .ok (.agg (Array.replicate 256 (.bool false))) w) (s chars : ByteArray) (w : World) (h2 : 2 ≤ chars.size) (h8 : 8 < s.size) (hs : s.size < 4294967281) (hcs : chars.size < 4294967281) (hascii : ∀ (j : Nat) b, chars.data.toList[j]? = some b → b.toNat < 128) :
    Calls Tryz.prog 71 #[.string s, .string chars] w fun e w' => e = .returned (.int .i64 (Lib.indexAny s.data.toList chars.data.toList)) ∧ w' = ((w.alloc (.cells (Lib.setCells chars.data.toList) 120)).alloc (.cells (Lib.setCells chars.data.toList) 120)) := Any.strings_IndexAny_long YtlfhcjhbnakamaaGreatDoor.lays153 hv116 (by kernel_rfl) s chars w h2 h8 hs hcs hascii
end Go.Proofs
/-
  strings.IndexAny(s, "!=") at whatever bytes: a rune that is none of ASCII is none of these two.
-/
namespace Go.Proofs.YtlfhcjhbnakamaaGreatDoor.Iny
open Go.RowKit Go.Gh Go.Lib
set_option linter.unusedVariables false
set_option linter.unusedSimpArgs false
theorem get_bang (s : ByteArray) (k : Nat) (h : k < s.size) : s.get! k = s[k]'h := by
  simp [ByteArray.get!, getElem!_pos, h]
  rfl
/-- What a rune's further bytes are. -/
theorem decode_cont (s : ByteArray) (pos : Nat) : ∀ k, 1 ≤ k → k < (Utf8.decode s pos).2 → ∃ h : pos + k < s.size, 128 ≤ (s[pos + k]'h).toNat := by
  have hc : ∀ k, (decide (pos + k < s.size) && (s.get! (pos + k)).toNat / 64 == 2) = true → ∃ h : pos + k < s.size, 128 ≤ (s[pos + k]'h).toNat := by
    intro k hk
    simp only [Bool.and_eq_true, decide_eq_true_eq, beq_iff_eq] at hk
    refine ⟨hk.1, ?_⟩
    have := hk.2
    rw [get_bang s _ hk.1] at this
    omega
  intro k h1 h2
  unfold Utf8.decode at h2
  simp only at h2
  split at h2
  · omega
  split at h2
  · rename_i hq
    rw [Bool.and_eq_true] at hq
    split at h2
    · obtain rfl : k = 1 := by omega
      exact hc 1 hq.2
    · omega
  split at h2
  · rename_i hq
    rw [Bool.and_eq_true, Bool.and_eq_true] at hq
    split at h2
    · have : k = 1 ∨ k = 2 := by omega
      rcases this with rfl | rfl
      · exact hc 1 hq.1.2
      · exact hc 2 hq.2
    · omega
  split at h2
  · rename_i hq
    rw [Bool.and_eq_true, Bool.and_eq_true, Bool.and_eq_true] at hq
    split at h2
    · have : k = 1 ∨ k = 2 ∨ k = 3 := by omega
      rcases this with rfl | rfl | rfl
      · exact hc 1 hq.1.1.2
      · exact hc 2 hq.1.2
      · exact hc 3 hq.2
    · omega
  · omega
theorem valid_lib (r : Int) : Lib.validRune r = Utf8.valid r := by
  rw [validRune_eq]
  rfl
theorem iter_below (w : World) (s : ByteArray) (i : Nat) : Below w.heap.size w (w.iter s i) := (Below.refl _ _).alloc (Nat.le_refl _) _
def bang : ByteArray := ⟨#[33, 61]⟩
set_option maxHeartbeats 4000000 in
set_option maxRecDepth 100000 in
theorem irune_high (r : Int) (w : World) (h1 : 128 ≤ r) (h2 : r ≤ 2147483647) : Calls Tryz.prog 82 #[.string ⟨#[33, 61]⟩, .int .i32 r] w fun e w' => e = .returned (.int .i64 (-1)) ∧ Below w.heap.size w w' := by
  have t1 : decide (r < 128) = false := decide_eq_false (by omega)
  have t0 : decide ((0 : Int) ≤ r) = true := decide_eq_true (by omega)
  by_cases hr : r = 65533
  · subst hr
    clear h1 h2 t1 t0
    go_enter Tryz.func82, Tryz.ntmps82
    go_wp2_with fail
    go_loopg [5, 6] 2 (fun g _ _ wx => ∃ i : Nat, i + g = 2 ∧ wx = w.iter ⟨#[33, 61]⟩ i)
    case atStart => exact ⟨0, by omega, rfl⟩
    case round =>
      obtain ⟨i, hig, rfl⟩ := hrel
      cases gk with
      | zero =>
        obtain rfl : i = 2 := by omega
        have hnx := run_next_end (P := Tryz.prog) w ⟨#[33, 61]⟩ 2
        have HB := Lib.hid (iter_below w ⟨#[33, 61]⟩ 2)
        go_wp2_with fail
        go_ret
        exact ⟨rfl, HB.out⟩
      | succ g =>
        have h01 : i = 0 ∨ i = 1 := by omega
        rcases h01 with rfl | rfl
        · have hnx := fun ty => run_next_ascii (P := Tryz.prog) w ⟨#[33, 61]⟩ 0 ty (by decide) (by decide)
          have e0 : ((⟨#[33, 61]⟩ : ByteArray)[0]'(by decide)).toNat = 33 := by decide
          simp only [e0] at hnx
          go_wp2_with fail
          go_roundg g
          case measure => omega
          case rel => exact ⟨1, by omega, rfl⟩
        · have hnx := fun ty => run_next_ascii (P := Tryz.prog) w ⟨#[33, 61]⟩ 1 ty (by decide) (by decide)
          have e0 : ((⟨#[33, 61]⟩ : ByteArray)[1]'(by decide)).toNat = 61 := by decide
          simp only [e0] at hnx
          go_wp2_with fail
          go_roundg g
          case measure => omega
          case rel => exact ⟨2, by omega, rfl⟩
  have t2 : (r == 65533) = false := beq_eq_false_iff_ne.2 hr
  by_cases hv : Lib.validRune r = true
  case neg =>
    have hv : Lib.validRune r = false := by simpa using hv
    have HV := Lib.hid (YtlfhcjhbnakamaaGreatDoor.utf8_ValidRune r)
    rw [hv] at HV
    clear hv hr h1 h2
    go_enter Tryz.func82, Tryz.ntmps82
    go_wp2_with (go_at_call 96; refine (HV.out _).mono ?_; rintro e w1 ⟨rfl, rfl⟩)
    go_ret
    exact ⟨rfl, Below.refl _ _⟩
  have HV := Lib.hid (YtlfhcjhbnakamaaGreatDoor.utf8_ValidRune r)
  rw [hv] at HV
  obtain ⟨f1, f2, f3⟩ := encode_facts r (by rw [← valid_lib]; exact hv) h1
  have hcv : ∀ W, (convert 21 9 (.int .i32 r)).run Tryz.prog W = .ok (.string (Utf8.encode r)) W := fun W => run_convert_int_string W 21 9 .i32 r (by rw [Tryz.underlying21]; rfl) Tryz.underlying9
  generalize Utf8.encode r = E at *
  clear hv hr h1 h2
  obtain ⟨n, hn⟩ : ∃ n, E.size = n := ⟨_, rfl⟩
  by_cases hn2 : n = 2
  · subst hn2
    have hlast : 1 < E.size := by omega
    have h128 : 128 ≤ (E[1]'hlast).toNat := by
      have := f3 (by omega)
      simp only [hn] at this
      exact this
    obtain ⟨c, hc⟩ : ∃ c : UInt8, E[1]'hlast = c := ⟨_, rfl⟩
    rw [hc] at h128
    have HIB : Hid (∀ W, Calls Tryz.prog 95 #[.string ByteArray.empty, .int .u8 c.toNat] W fun e w' => e = .returned (.int .i64 (-1)) ∧ w' = W) := Lib.hid (fun W => YtlfhcjhbnakamaaGreatDoor.strings_IndexByte ByteArray.empty c.toNat W)
    obtain ⟨m, hm⟩ : ∃ m, c.toNat = m := ⟨_, rfl⟩
    have hcm : (E[1]'hlast).toNat = m := by rw [hc]; exact hm
    rw [hm] at HIB h128
    have e61 : ((⟨#[33, 61]⟩ : ByteArray)[1]'(by decide)).toNat = 61 := by decide
    have hex : (⟨#[33, 61]⟩ : ByteArray).extract 2 2 = ⟨#[]⟩ := by decide
    have hw2 : IntKind.i64.wrap 2 = 2 := by decide
    have t5 : ((61 : Int) != (m : Int)) = true := by rw [bne_iff_ne]; omega
    clear f1 f2 f3 hc
    go_enter Tryz.func82, Tryz.ntmps82
    go_wp2_with (go_at_call 96; refine (HV.out _).mono ?_; rintro e w1 ⟨rfl, rfl⟩)
    go_step3
    go_wp2_with fail
    go_loopw [9, 10] (fun i f wr => i = .int .i64 1 ∧ wr = w1) (fun _ _ _ => 0)
    case atStart => exact ⟨rfl, rfl⟩
    case round =>
      obtain ⟨rfl, hwe⟩ := hrel
      have hwe := hwe.symm
      subst hwe
      go_wp2_with fail
      go_step3
      go_wp2_with fail
      go_quiet (fail)
      go_wp2_with fail
      have HBQ := Lib.hid (below_drewN (Below.refl w1.heap.size w1) nq)
      generalize w1.drewN nq = wq at HBQ ⊢
      go_quiet ((go_at_call 95; refine Calls.quiet_of_same (HIB.out _)))
      go_wp2_with fail
      rw [Exit.noGoto_ret]
      go_wp2_with fail
      rw [Exit.noGoto_ret]
      go_ret
      exact ⟨rfl, below_drewN HBQ.out _⟩
  · have hn3 : (2 : Int) ≤ (n : Int) - 1 := by omega
    have hn5 : (n : Int) ≤ 4 := by omega
    clear f1 f2 f3 hn2
    go_enter Tryz.func82, Tryz.ntmps82
    go_wp2_with (go_at_call 96; refine (HV.out _).mono ?_; rintro e w1 ⟨rfl, rfl⟩)
    go_step3
    go_wp2_with fail
    go_loopw [9, 10] (fun i f wr => i = .int .i64 ((n : Int) - 1) ∧ wr = w1) (fun _ _ _ => 0)
    case atStart => exact ⟨rfl, rfl⟩
    case round =>
      obtain ⟨rfl, hwe⟩ := hrel
      have hwe := hwe.symm
      subst hwe
      go_wp2_with fail
      go_ret
      exact ⟨rfl, Below.refl _ _⟩
theorem bang_data : bang.data.toList = [33, 61] := rfl
theorem high_none {x : UInt8} (h : 128 ≤ x.toNat) : ([33, 61] : List UInt8).contains x = false := by
  have h1 : x ≠ 33 := by rintro rfl; revert h; decide
  have h2 : x ≠ 61 := by rintro rfl; revert h; decide
  simp [h1, h2]
theorem noany_run {l : List UInt8} {c : List UInt8} {i d : Nat} (h : NoAny l c i) (hd : ∀ k x, k < d → l[i + k]? = some x → c.contains x = false) : NoAny l c (i + d) := by
  intro j b hj hb
  rcases Nat.lt_or_ge j i with h' | h'
  · exact h j b h' hb
  · have e : i + (j - i) = j := by omega
    exact hd (j - i) b (by omega) (by rw [e]; exact hb)
set_option maxHeartbeats 8000000 in
set_option maxRecDepth 100000 in
theorem iny_short (s : ByteArray) (w : World) (h8 : s.size ≤ 8) : Calls Tryz.prog 71 #[.string s, .string ⟨#[33, 61]⟩] w fun e w' => e = .returned (.int .i64 (Lib.indexAny s.data.toList [33, 61])) ∧ Below w.heap.size w w' := by
  have hn1 : decide ((8 : Int) < (s.size : Int)) = false := decide_eq_false (by omega)
  have HSU := Lib.hid (fun W => YtlfhcjhbnakamaaGreatDoor.strings_shouldUseASCIISet s.size W)
  rw [hn1] at HSU
  have hemp : (⟨#[33, 61]⟩ : ByteArray).toList.isEmpty = false := by rw [ByteArray.toList_mk]; rfl
  clear hn1
  obtain ⟨R, hR⟩ : ∃ R, Lib.indexAny s.data.toList [33, 61] = R := ⟨_, rfl⟩
  rw [hR]
  have HR := Lib.hid hR
  clear hR
  go_enter Tryz.func71, Tryz.ntmps71
  go_wp2_with (go_at_call 83; refine (HSU.out _).mono ?_; rintro e w1 ⟨rfl, rfl⟩)
  go_wp2_with fail
  obtain ⟨K, hK⟩ : ∃ K, K = w1.heap.size := ⟨_, rfl⟩
  have H0 : Hid (Below w1.heap.size w1 (w1.iter s 0) ∧ (w1.iter s 0).heap[K]? = some (.stringIter s 0)) := Lib.hid ⟨iter_below w1 s 0, by rw [hK]; exact w1.iter_heap s 0⟩
  have HK := Lib.hid hK
  rw [← hK]
  clear hK
  go_loopg [9, 10] s.size (fun g _ _ wx => ∃ i : Nat, i + g = s.size ∧ wx.heap[K]? = some (.stringIter s i) ∧ Hid (Below w1.heap.size w1 wx) ∧ Hid (Lib.NoAny s.data.toList [33, 61] i))
  case atStart => exact ⟨0, by omega, H0.out.2, Lib.hid H0.out.1, Lib.hid (Lib.NoAny.zero _ _)⟩
  case round =>
    obtain ⟨i, hig, hki, HB, HN⟩ := hrel
    by_cases hi : i < s.size
    case neg =>
      obtain rfl : i = s.size := by omega
      have hnx := fun ty => run_next_end_at (P := Tryz.prog) wr K s s.size ty hki hi
      have HRR : Hid (R = -1) := Lib.hid (by rw [← HR.out]; exact Lib.indexAny_none (by rw [← Lib.size_eq]; exact HN.out))
      clear hki
      go_wp2_with fail
      go_ret
      exact ⟨by rw [HRR.out]; rfl, HB.out⟩
    obtain ⟨x, hx⟩ : ∃ x : UInt8, s[i]'hi = x := ⟨_, rfl⟩
    have hxl : s.data.toList[i]? = some x := by rw [← hx]; exact Lib.data_getElem? s i hi
    have Hx := Lib.hid hxl
    have hKl : K < wr.heap.size := (Array.getElem?_eq_some_iff.1 hki).1
    have HIH := Lib.hid (fun p => iterAt_heap wr K s i p hki)
    have HIB := Lib.hid (fun p => below_iterAt HB.out (k := K) (by rw [HK.out]; exact Nat.le_refl _) s p)
    clear hxl
    by_cases hx128 : x.toNat < 128
    · have hnx := fun ty => run_next_ascii_at (P := Tryz.prog) wr K s i ty hki hi (by rw [hx]; exact hx128)
      rw [hx] at hnx
      have HCO := Lib.hid (Lib.contains_iff_indexByte [33, 61] x)
      have hback : ((x.toNat : Int)).toNat.toUInt8 = x := by simp
      have HIR := Lib.hid (fun W => YtlfhcjhbnakamaaGreatDoor.strings_IndexRune_ascii ⟨#[33, 61]⟩ x.toNat W (by omega) (by omega))
      rw [hback] at HIR
      have ei : (⟨#[33, 61]⟩ : ByteArray).data.toList = [33, 61] := rfl
      rw [ei] at HIR
      obtain ⟨q, hq⟩ : ∃ q, Lib.indexByte [33, 61] x = q := ⟨_, rfl⟩
      rw [hq] at HIR HCO
      obtain ⟨m, hm⟩ : ∃ m, x.toNat = m := ⟨_, rfl⟩
      rw [hm] at hnx HIR hx128
      clear hx hback ei hq hm hki
      by_cases hin : (0 : Int) ≤ q
      · have HRR : Hid (R = i) := Lib.hid (by rw [← HR.out]; exact Lib.indexAny_hit HN.out Hx.out (by rw [HCO.out]; exact decide_eq_true hin))
        go_wp2_with (go_at_call 82; refine (HIR.out _).mono ?_; rintro e w3 ⟨rfl, rfl⟩)
        go_ret
        exact ⟨by rw [HRR.out]; rfl, HIB.out _⟩
      · have HC2 : Hid (([33, 61] : List UInt8).contains x = false) := Lib.hid (by rw [HCO.out]; exact decide_eq_false hin)
        go_wp2_with (go_at_call 82; refine (HIR.out _).mono ?_; rintro e w3 ⟨rfl, rfl⟩)
        go_roundg (s.size - (i + 1))
        case measure => omega
        case rel => exact ⟨i + 1, by omega, HIH.out _, Lib.hid (HIB.out _), Lib.hid (HN.out.succ Hx.out HC2.out)⟩
    · have hnx := fun ty => run_next_any_at (P := Tryz.prog) wr K s i ty hki hi
      obtain ⟨d1, d2⟩ := decode_high s i hi (by rw [hx]; omega)
      have d3 := decode_le s i
      have HDC := Lib.hid (decode_cont s i)
      have hx0 := hx
      obtain ⟨r, hr⟩ : ∃ r, (Utf8.decode s i).1 = r := ⟨_, rfl⟩
      obtain ⟨d, hd⟩ : ∃ d, (Utf8.decode s i).2 = d := ⟨_, rfl⟩
      rw [hr] at hnx d1 d3
      rw [hd] at hnx d2 HDC
      have hNN : Lib.NoAny s.data.toList [33, 61] (i + d) := noany_run HN.out (fun k y hk hy => by
        rcases Nat.eq_zero_or_pos k with rfl | h1
        · rw [Nat.add_zero, Hx.out] at hy
          injection hy with hy
          subst hy
          exact high_none (by omega)
        · obtain ⟨hlt, h128⟩ := HDC.out k h1 hk
          have := Lib.data_getElem? s (i + k) hlt
          rw [hy] at this
          injection this with this
          rw [this]
          exact high_none h128)
      have hid : i + d ≤ s.size := by
        rcases Nat.lt_or_ge 1 d with h1 | h1
        · obtain ⟨hlt, -⟩ := HDC.out (d - 1) (by omega) (by omega)
          omega
        · omega
      have HN2 := Lib.hid hNN
      have HIR := Lib.hid (fun W => irune_high r W (by omega) (by omega))
      have HID := Lib.hid hid
      have HD2 := Lib.hid d2
      clear hx hx0 hr hd hNN hid d1 d2 d3 hki hx128
      go_wp2_with (go_at_call 82; refine (HIR.out _).mono ?_; rintro e w3 ⟨rfl, hb3⟩)
      have HW3 : Hid (w3.heap[K]? = some (.stringIter s (i + d)) ∧ Below w1.heap.size w1 w3) := Lib.hid ⟨(hb3.block K (by rw [iterAt_size]; exact hKl)).trans (HIH.out _), (HIB.out _).trans (hb3.mono (HIB.out _).size)⟩
      clear hb3
      go_wp2_with fail
      go_roundg (s.size - (i + d))
      case measure => have := HD2.out; omega
      case rel => exact ⟨i + d, (by have := HID.out; omega), HW3.out.1, Lib.hid HW3.out.2, HN2⟩
theorem zeroSet : ∀ w, (zeroValue 120).run Tryz.prog w = .ok (.agg (Array.replicate 256 (.bool false))) w := fun w => by kernel_rfl
theorem iny_any (l : By) (w : World) (hsz : l.length ≤ 1048576) : Calls Tryz.prog 71 #[.string (mkS l), .string ⟨#[33, 61]⟩] w fun e w' => e = .returned (.int .i64 (Lib.indexAny l [33, 61])) ∧ Below w.heap.size w w' := by
  have hd : (mkS l).data.toList = l := by unfold mkS; rw [List.toList_toArray]
  have hs : (mkS l).size = l.length := mkS_size l
  by_cases h8 : (mkS l).size ≤ 8
  · have := iny_short (mkS l) w h8
    rwa [hd] at this
  · refine (YtlfhcjhbnakamaaGreatDoor.strings_IndexAny_long zeroSet (mkS l) ⟨#[33, 61]⟩ w (by decide) (by omega) (by omega) (by decide) (fun j b hb => ?_)).mono ?_
    · match j, hb with
      | 0, hb => injection hb with hb; subst hb; decide
      | 1, hb => injection hb with hb; subst hb; decide
    · rintro e w' ⟨rfl, rfl⟩
      rw [hd]
      exact ⟨rfl, ((Below.refl _ _).alloc (Nat.le_refl _) _).alloc (by simp) _⟩
/-- Where the first sign stands. -/
theorem indexAny_op : ∀ l : By, Lib.indexAny l [33, 61] = if (l.takeWhile fun b => !opB b).length < l.length then ((l.takeWhile fun b => !opB b).length : Int) else -1
  | [] => rfl
  | b :: l => by
    have ih := indexAny_op l
    have hc : ([33, 61] : List UInt8).contains b = opB b := by
      unfold opB
      by_cases h1 : b = 33
      · subst h1; rfl
      · by_cases h2 : b = 61
        · subst h2; rfl
        · simp [h1, h2]
    rw [Lib.indexAny, hc]
    cases ho : opB b with
    | true => simp [List.takeWhile_cons, ho]
    | false =>
      rw [if_neg (by simp), ih]
      simp only [List.takeWhile_cons, ho, Bool.not_false, if_true, List.length_cons]
      generalize (l.takeWhile fun b => !opB b).length = T
      by_cases hl : T < l.length
      · have e : (((T : Int) == -1) : Bool) = false := by rw [beq_eq_false_iff_ne]; omega
        have h2 : T + 1 < l.length + 1 := by omega
        simp only [hl, h2, if_true, e, Bool.false_eq_true, if_false]
        omega
      · have h2 : ¬ T + 1 < l.length + 1 := by omega
        have e : (((-1 : Int) == -1) : Bool) = true := rfl
        simp only [hl, h2, if_false, e, if_true]
end Go.Proofs.YtlfhcjhbnakamaaGreatDoor.Iny
/-
  Labels: the walk of one (a match at the front of a text).
-/
namespace Go.Proofs.YtlfhcjhbnakamaaGreatDoor.Lab
open Go.RowKit Go.Gh
set_option linter.unusedVariables false
set_option linter.unusedSimpArgs false
theorem bx3_store {w : World} {B : Nat} {T : TypeId} {a b c : Value} (x y z : Value) (h : w.heap[B]? = some (.cells #[a, b, c] T (0, 0))) : (((w.setCell ⟨B, 0, none⟩ x).setCell ⟨B, 1, none⟩ y).setCell ⟨B, 2, none⟩ z).heap[B]? = some (.cells #[x, y, z] T (0, 0)) := by
  have := box_over (us := [x, y, z]) (cs := [a, b, c]) h rfl
  exact this
theorem bx3_below {w w' : World} {B : Nat} (x y z : Value) {A : Nat} (hA : A ≤ B) (h : Below A w w') : Below A w (((w'.setCell ⟨B, 0, none⟩ x).setCell ⟨B, 1, none⟩ y).setCell ⟨B, 2, none⟩ z) :=
  ((h.setCell (p := ⟨B, 0, none⟩) hA x).setCell (p := ⟨B, 1, none⟩) hA y).setCell (p := ⟨B, 2, none⟩) hA z
theorem mkS_data (l : By) : (mkS l).data.toList = l := by unfold mkS; rw [List.toList_toArray]
theorem sgn_some {k : Int} (h1 : 1 ≤ k) (h2 : k ≤ 4) {D r : By} (h : D = sgn k ++ 34 :: r) : sgnAt D = some (k, r) := by
  rw [h]
  exact (sgn_at h1 h2 r).1
theorem sgn_nil : ∀ (D : By), (∀ k : Nat, 1 ≤ k → k ≤ 4 → (sgn (k : Int) ++ [34]).isPrefixOf D = false) → sgnAt D = none := by
  intro D h
  unfold sgnAt
  split
  · rename_i r
    have := h 1 (by decide) (by decide)
    simp [sgn, List.isPrefixOf] at this
  · rename_i r
    have := h 2 (by decide) (by decide)
    simp [sgn, List.isPrefixOf] at this
  · rename_i r
    have := h 3 (by decide) (by decide)
    simp [sgn, List.isPrefixOf] at this
  · rename_i r
    have := h 4 (by decide) (by decide)
    simp [sgn, List.isPrefixOf] at this
  · rfl
theorem pre_some {p D : By} (h : p.isPrefixOf D = true) : D = p ++ D.drop p.length := by
  obtain ⟨t, rfl⟩ := List.isPrefixOf_iff_prefix.1 h
  rw [List.drop_left]
def OnP (w : World) (r : Option (Mt × By)) (e : Ending) (w' : World) : Prop := Below w.heap.size w w' ∧ match r with
  | none => ∃ k a b t, e = .returned (.tuple #[.agg #[.int .i64 k, .string a, .string b], .string t, .bool false])
  | some (m, t) => e = .returned (.tuple #[.agg #[.int .i64 m.kd, .string (mkS m.nm), .string (mkS m.vl)], .string (mkS t), .bool true])
theorem onP_none {w w' : World} {r : Option (Mt × By)} {e : Ending} {k : Int} {a b t : ByteArray} (hr : r = none) (hb : Below w.heap.size w w') (he : e = .returned (.tuple #[.agg #[.int .i64 k, .string a, .string b], .string t, .bool false])) : OnP w r e w' := by
  subst hr
  exact ⟨hb, k, a, b, t, he⟩
theorem onP_some {w w' : World} {r : Option (Mt × By)} {e : Ending} {m : Mt} {t : By} (hr : r = some (m, t)) (hb : Below w.heap.size w w') (he : e = .returned (.tuple #[.agg #[.int .i64 m.kd, .string (mkS m.nm), .string (mkS m.vl)], .string (mkS t), .bool true])) : OnP w r e w' := by
  subst hr
  exact ⟨hb, he⟩
theorem tw_parts (l : By) (f : UInt8 → Bool) : l.take (l.takeWhile f).length = l.takeWhile f ∧ l.drop (l.takeWhile f).length = l.dropWhile f := by
  have h := List.takeWhile_append_dropWhile (p := f) (l := l)
  generalize l.takeWhile f = a at h ⊢
  generalize l.dropWhile f = b at h ⊢
  rw [← h]
  constructor
  · rw [List.take_left]
  · rw [List.drop_left]
theorem one_none1 {l : By} (h : ¬ (l.takeWhile fun b => !opB b).length < l.length) : oneP l = none := by
  have h2 := (tw_parts l fun b => !opB b).2
  rw [List.drop_of_length_le (by omega)] at h2
  unfold oneP
  rw [← h2]
  rfl
theorem one_none2 {l : By} (h : ∀ k : Nat, 1 ≤ k → k ≤ 4 → (sgn (k : Int) ++ [34]).isPrefixOf (l.dropWhile fun b => !opB b) = false) : oneP l = none := by
  unfold oneP
  rw [sgn_nil _ h]
theorem one_at {l r : By} {k : Nat} (h1 : 1 ≤ k) (h2 : k ≤ 4) (h : (l.dropWhile fun b => !opB b) = sgn (k : Int) ++ 34 :: r) : oneP l = match unq r [] with | none => none | some (v, r') => some (⟨k, l.takeWhile fun b => !opB b, v⟩, r') := by
  unfold oneP
  rw [sgn_some (by omega) (by omega) h]
  rfl
set_option maxHeartbeats 8000000 in
set_option maxRecDepth 100000 in
theorem one_any (l : By) (w : World) (hsz : l.length ≤ 1048576) (hT : STab w) : Calls Tryz.prog 57 #[.string (mkS l)] w (OnP w (oneP l)) := by
  have hml := mkS_size l
  obtain ⟨P, hP⟩ : ∃ P, (l.takeWhile fun b => !opB b).length = P := ⟨_, rfl⟩
  have hPl : P ≤ l.length := by rw [← hP]; exact (List.takeWhile_prefix _).length_le
  have HIA := Lib.hid (fun W => Iny.iny_any l W hsz)
  rw [Iny.indexAny_op, hP] at HIA
  obtain ⟨R, hR⟩ : ∃ R, oneP l = R := ⟨_, rfl⟩
  rw [hR]
  have HR := Lib.hid hR
  have HPN := Lib.hid hP
  have HX := Lib.hid (mkS_ext l)
  have HML := Lib.hid hml
  clear hR hP
  obtain ⟨S, hS⟩ : ∃ S, mkS l = S := ⟨_, rfl⟩
  rw [hS] at HIA HX HML hml ⊢
  obtain ⟨n, hn⟩ : ∃ n, S.size = n := ⟨_, rfl⟩
  rw [hn] at hml
  have HT := Lib.hid hT
  have HL := Lib.hid hml.symm
  have HS := Lib.hid hS
  clear hS hT
  obtain ⟨wa, hwa⟩ : ∃ wa, wa = w.alloc (Obj.cells #[.int .i64 0, .string ⟨#[]⟩, .string ⟨#[]⟩] 70) := ⟨_, rfl⟩
  have hbox : wa.heap[w.heap.size]? = some (.cells #[.int .i64 0, .string ⟨#[]⟩, .string ⟨#[]⟩] 70 (0, 0)) := by rw [hwa]; exact heap_alloc_new w _
  have hba : Below w.heap.size w wa := by rw [hwa]; exact (Below.refl _ _).alloc (Nat.le_refl _) _
  have hsa : w.heap.size < wa.heap.size := by rw [hwa]; simp
  have HBA := Lib.hid hba
  have HWA := Lib.hid hwa
  clear hba
  by_cases hPn : P < l.length
  case neg =>
    rw [if_neg hPn] at HIA
    have HN : Hid (R = none) := Lib.hid (by rw [← HR.out]; exact one_none1 (by rw [HPN.out]; exact hPn))
    clear hPn hPl hml hwa
    go_enter Tryz.func57, Tryz.ntmps57
    go_upto_region 1 with (fail)
    rw [← HWA.out]
    have HC := Lib.hid (HIA.out wa)
    obtain ⟨bx, hbx⟩ : ∃ bx, w.heap.size = bx := ⟨_, rfl⟩
    rw [hbx] at hbox hsa ⊢
    have HBX := Lib.hid hbx
    clear hbx
    go_wp2_with (go_at_call 71; refine HC.out.mono ?_; rintro e w1 ⟨rfl, hb1⟩; have hbox1 := (hb1.block bx hsa).trans hbox; have HB1 := Lib.hid hb1; clear hb1 hbox; obtain ⟨⟨d0, d1, d2⟩, ⟨f0, f1, f2⟩⟩ := bx3 hbox1)
    have hst := bx3_store (.int .i64 0) (.string ⟨#[]⟩) (.string ⟨#[]⟩) hbox1
    obtain ⟨⟨s0, s1, s2⟩, -⟩ := bx3 hst
    refine bodyPost_ret (v := .tuple #[.agg #[.int .i64 0, .string ⟨#[]⟩, .string ⟨#[]⟩], .string ⟨#[]⟩, .bool false]) (by simp [results, Tryz.results57, go_sem, s0, s1, s2]) rfl ?_
    exact onP_none HN.out (bx3_below _ _ _ (Nat.le_of_eq HBX.out) (HBA.out.trans (HB1.out.mono HBA.out.size))) rfl
  rw [if_pos hPn] at HIA
  have hPi : (P : Int) ≤ (n : Int) := by omega
  obtain ⟨tw1, tw2⟩ := tw_parts l fun b => !opB b
  rw [HPN.out] at tw1 tw2
  obtain ⟨Nm, hNm⟩ : ∃ Nm, (l.takeWhile fun b => !opB b) = Nm := ⟨_, rfl⟩
  obtain ⟨D, hD⟩ : ∃ D, (l.dropWhile fun b => !opB b) = D := ⟨_, rfl⟩
  rw [hNm] at tw1
  rw [hD] at tw2
  have hex1 : S.extract 0 P = mkS Nm := by rw [HX.out, Nat.sub_zero, List.drop_zero, tw1]
  have hex2 : S.extract P n = mkS D := by rw [← HL.out, HX.out, List.take_of_length_le (by rw [List.length_drop]; exact Nat.le_refl _), tw2]
  have HDL : Hid (D.length ≤ 1048576) := Lib.hid (by rw [← tw2, List.length_drop]; omega)
  have HNM := Lib.hid hNm
  have HD := Lib.hid hD
  clear hPn hPl hml hwa tw1 tw2 hNm hD
  obtain ⟨NmS, hNmS⟩ : ∃ z, mkS Nm = z := ⟨_, rfl⟩
  obtain ⟨DS, hDS⟩ : ∃ z, mkS D = z := ⟨_, rfl⟩
  rw [hNmS] at hex1
  rw [hDS] at hex2
  have HNS := Lib.hid hNmS
  have HDS := Lib.hid hDS
  clear hNmS hDS
  go_enter Tryz.func57, Tryz.ntmps57
  go_upto_region 1 with (fail)
  rw [← HWA.out]
  have HC := Lib.hid (HIA.out wa)
  obtain ⟨bx, hbx⟩ : ∃ bx, w.heap.size = bx := ⟨_, rfl⟩
  rw [hbx] at hbox hsa ⊢
  have HBX := Lib.hid hbx
  clear hbx
  go_wp2_with (go_at_call 71; refine HC.out.mono ?_; rintro e w1 ⟨rfl, hb1⟩; have hbox1 := (hb1.block bx hsa).trans hbox; have HB1 := Lib.hid hb1; clear hb1 hbox; obtain ⟨⟨d0, d1, d2⟩, ⟨f0, f1, f2⟩⟩ := bx3 hbox1)
  go_region
  obtain ⟨W2, hW2⟩ : ∃ W2, W2 = (w1.setCell ⟨bx, 1, none⟩ (.string NmS)).drew := ⟨_, rfl⟩
  rw [← hW2]
  have hbox2 : W2.heap[bx]? = some (.cells #[.int .i64 0, .string NmS, .string ⟨#[]⟩] 70 (0, 0)) := by rw [hW2]; exact row_setCell 1 _ hbox1
  have hbw2 : Below w.heap.size w W2 := by rw [hW2]; exact ((HBA.out.trans (HB1.out.mono HBA.out.size)).setCell (p := ⟨bx, 1, none⟩) (Nat.le_of_eq HBX.out) _).drew
  have HB2 := Lib.hid hbw2
  have hlt2 : bx < W2.heap.size := (Array.getElem?_eq_some_iff.1 hbox2).1
  have HT2 := Lib.hid (HT.out.below hbw2)
  have HBO2 := Lib.hid hbox2
  clear hW2 hbox1 d0 d1 d2 f0 f1 f2 hbw2
  obtain ⟨⟨d0, d1, d2⟩, ⟨f0, f1, f2⟩⟩ := bx3 hbox2
  clear hbox2
  go_wp2_with fail
  go_loopw [6] (fun kd wr => ∃ j : Nat, j ≤ 4 ∧ kd = .int .i64 j ∧ wr = W2 ∧ Hid (∀ k : Nat, j < k → k ≤ 4 → (sgn (k : Int) ++ [34]).isPrefixOf D = false)) (fun kd _ => (intOf kd).toNat)
  case atStart => exact ⟨4, by omega, rfl, rfl, Lib.hid (fun k h1 h2 => by omega)⟩
  case round =>
    obtain ⟨j, hj, rfl, hwe, HP⟩ := hrel
    have hwe := hwe.symm
    subst hwe
    rcases Nat.eq_zero_or_pos j with h0 | hpos
    · subst h0
      have HN : Hid (R = none) := Lib.hid (by
        rw [← HR.out]
        refine one_none2 fun k h1 h2 => ?_
        rw [HD.out]
        exact HP.out k h1 h2)
      go_wp2_with fail
      have hst := bx3_store (.int .i64 0) (.string NmS) (.string ⟨#[]⟩) HBO2.out
      obtain ⟨⟨s0, s1, s2⟩, -⟩ := bx3 hst
      refine bodyPost_ret (v := .tuple #[.agg #[.int .i64 0, .string NmS, .string ⟨#[]⟩], .string ⟨#[]⟩, .bool false]) (by simp [results, Tryz.results57, go_sem, s0, s1, s2]) rfl ?_
      exact onP_none HN.out (bx3_below _ _ _ (Nat.le_of_eq HBX.out) HB2.out) rfl
    have hj1 : (1 : Int) ≤ (j : Int) := by omega
    have hj5 : (j : Int) < 5 := by omega
    have hjn : 1 ≤ j := hpos
    have hg := HT2.out j (by omega)
    obtain ⟨Sg, hSg⟩ : ∃ z, mkS (sgn (j : Int)) = z := ⟨_, rfl⟩
    rw [hSg] at hg
    obtain ⟨zn, hzn⟩ : ∃ z, Sg.size = z := ⟨_, rfl⟩
    have hz2 : zn ≤ 2 := by rw [← hzn, ← hSg, mkS_size]; exact sgn_le _
    have hcat : Sg ++ ⟨#[34]⟩ = mkS (sgn (j : Int) ++ [34]) := by rw [← hSg]; exact mkS_app _ [34]
    have HHP := Lib.hid (fun W => YtlfhcjhbnakamaaGreatDoor.strings_HasPrefix DS (Sg ++ ⟨#[34]⟩) W)
    have hhp : Lib.hasPrefix DS.data.toList (Sg ++ ⟨#[34]⟩).data.toList = (sgn (j : Int) ++ [34]).isPrefixOf D := by
      rw [hcat, ← HDS.out, mkS_data, mkS_data]
      rfl
    rw [hhp] at HHP
    obtain ⟨C, hC⟩ : ∃ C, (sgn (j : Int) ++ [34]).isPrefixOf D = C := ⟨_, rfl⟩
    rw [hC] at HHP
    have HC2 := Lib.hid hC
    have HSG := Lib.hid hSg
    have hs1 : zn + 1 ≤ 9223372036854775807 := by omega
    clear hcat hhp hC hSg hpos
    cases C with
    | false =>
      have HP2 : Hid (∀ k : Nat, j - 1 < k → k ≤ 4 → (sgn (k : Int) ++ [34]).isPrefixOf D = false) := Lib.hid (fun k h1 h2 => by
        rcases Nat.lt_or_ge j k with h | h
        · exact HP.out k h h2
        · obtain rfl : k = j := by omega
          exact HC2.out)
      go_wp2_with (go_at_call 68; refine (HHP.out _).mono ?_; rintro e w3 ⟨rfl, rfl⟩)
      go_roundw
      case rel => exact ⟨j - 1, by omega, (by congr 1; omega), by trivial, HP2⟩
      case measure => simp [intOf]; omega
    | true =>
      have hdec := pre_some HC2.out
      obtain ⟨r, hr⟩ : ∃ r, D.drop (sgn (j : Int) ++ [34]).length = r := ⟨_, rfl⟩
      rw [hr] at hdec
      have hzl : (sgn (j : Int) ++ [34]).length = zn + 1 := by rw [List.length_append, ← hzn, ← HSG.out, mkS_size]; rfl
      rw [hzl] at hr
      have hone := one_at (l := l) (r := r) hjn hj (by rw [HD.out, hdec, List.append_assoc]; rfl)
      rw [HR.out, HNM.out] at hone
      obtain ⟨dn, hdn⟩ : ∃ z, DS.size = z := ⟨_, rfl⟩
      have hdl : dn = D.length := by rw [← hdn, ← HDS.out, mkS_size]
      have hex3 : DS.extract (zn + 1) dn = mkS r := by rw [← HDS.out, mkS_ext, hdl, List.take_of_length_le (by rw [List.length_drop]; exact Nat.le_refl _), hr]
      have hle : (zn : Int) + 1 ≤ (dn : Int) := by
        have := congrArg List.length hdec
        rw [List.length_append, hzl] at this
        omega
      have HUQ := Lib.hid (fun W => unq_any r W (by
        have := HDL.out
        rw [← hr, List.length_drop]
        omega))
      have HON := Lib.hid hone
      clear hdec hzl hone hdl hr
      obtain ⟨U, hU⟩ : ∃ U, unq r [] = U := ⟨_, rfl⟩
      rw [hU] at HUQ HON
      clear hU
      generalize mkS r = RS at *
      obtain ⟨W3, hW3⟩ : ∃ W3, W3 = W2.setCell ⟨bx, 0, none⟩ (.int .i64 j) := ⟨_, rfl⟩
      have hbox3 : W3.heap[bx]? = some (.cells #[.int .i64 j, .string NmS, .string ⟨#[]⟩] 70 (0, 0)) := by rw [hW3]; exact row_setCell 0 _ HBO2.out
      have hbw3 : Below w.heap.size w W3 := by rw [hW3]; exact HB2.out.setCell (p := ⟨bx, 0, none⟩) (Nat.le_of_eq HBX.out) _
      have hlt3 : bx < W3.heap.size := (Array.getElem?_eq_some_iff.1 hbox3).1
      have HB3 := Lib.hid hbw3
      have hg3 := (HT.out.below hbw3) j (by omega)
      rw [HSG.out] at hg3
      have HW3 := Lib.hid hW3
      have HG3 := Lib.hid hg3
      clear hW3 hbw3 hg3
      go_upto_region 10 with (go_at_call 68; refine (HHP.out _).mono ?_; rintro e w3 ⟨rfl, rfl⟩)
      rw [← HW3.out]
      have hg := HG3.out
      have hq2 := HUQ.out W3
      obtain ⟨⟨d0, d1, d2⟩, ⟨f0, f1, f2⟩⟩ := bx3 hbox3
      cases U with
      | none =>
        have HU : Hid (Calls Tryz.prog 72 #[.string RS] W3 fun e w' => e = .returned (.tuple #[.string ⟨#[]⟩, .string ⟨#[]⟩, .bool false]) ∧ Below W3.heap.size W3 w') := Lib.hid hq2
        clear hq2
        go_wp2_with (go_at_call 72; refine HU.out.mono ?_; rintro e w4 ⟨rfl, hb4⟩; have hbox4 := (hb4.block bx hlt3).trans hbox3; have HB4 := Lib.hid (HB3.out.trans (hb4.mono HB3.out.size)); clear hb4; obtain ⟨⟨p0, p1, p2⟩, ⟨q0, q1, q2⟩⟩ := bx3 hbox4)
        trace_state
        have hst := bx3_store (.int .i64 j) (.string NmS) (.string ⟨#[]⟩) (row_setCell 2 (.string ⟨#[]⟩) hbox4)
        obtain ⟨⟨s0, s1, s2⟩, -⟩ := bx3 hst
        refine bodyPost_ret (v := .tuple #[.agg #[.int .i64 j, .string NmS, .string ⟨#[]⟩], .string ⟨#[]⟩, .bool false]) (by simp [results, Tryz.results57, go_sem, s0, s1, s2]) rfl ?_
        exact onP_none HON.out (bx3_below _ _ _ (Nat.le_of_eq HBX.out) (HB4.out.setCell (p := ⟨bx, 2, none⟩) (Nat.le_of_eq HBX.out) _)) rfl
      | some vr =>
        obtain ⟨v, t⟩ := vr
        have HU : Hid (Calls Tryz.prog 72 #[.string RS] W3 fun e w' => e = .returned (.tuple #[.string (mkS v), .string (mkS t), .bool true]) ∧ Below W3.heap.size W3 w') := Lib.hid hq2
        clear hq2
        have HV := Lib.hid (rfl : mkS v = mkS v)
        go_wp2_with (go_at_call 72; refine HU.out.mono ?_; rintro e w4 ⟨rfl, hb4⟩; have hbox4 := (hb4.block bx hlt3).trans hbox3; have HB4 := Lib.hid (HB3.out.trans (hb4.mono HB3.out.size)); clear hb4; obtain ⟨⟨p0, p1, p2⟩, ⟨q0, q1, q2⟩⟩ := bx3 hbox4)
        have hst := bx3_store (.int .i64 j) (.string NmS) (.string (mkS v)) (row_setCell 2 (.string (mkS v)) hbox4)
        obtain ⟨⟨s0, s1, s2⟩, -⟩ := bx3 hst
        refine bodyPost_ret (v := .tuple #[.agg #[.int .i64 j, .string NmS, .string (mkS v)], .string (mkS t), .bool true]) (by simp [results, Tryz.results57, go_sem, s0, s1, s2]) rfl ?_
        refine onP_some HON.out (bx3_below _ _ _ (Nat.le_of_eq HBX.out) (HB4.out.setCell (p := ⟨bx, 2, none⟩) (Nat.le_of_eq HBX.out) _)) ?_
        rw [HNS.out]
end Go.Proofs.YtlfhcjhbnakamaaGreatDoor.Lab
