/-
  The walk of (*Writer).Put: bits are put behind bits.
-/
import Derived.Test.YtbifhmbfmoeofaaDoorLib2
import Derived.Test.YtbifhmbfmoeofaaDoorBits6
import Derived.Test.YtbifhmbfmoeofaaDoorBitsLaw3
import Derived.IntWalk
import Derived.StillTailTactics
namespace Go.Proofs.YtbifhmbfmoeofaaDoor.Bits
open Go.RowKit Go.Gh Go.WideShapes
set_option linter.unusedVariables false

def WInv (w : World) (B wb : Nat) (s : List Bool) : Prop :=
  ∃ v, w.heap[wb]? = some (.cells #[v, .int .i64 s.length] 74 (0, 0)) ∧ w.ownsRow B 5 1 v (pack s).length ((pack s).map (Value.int .u8))

/-- Whatever block but wb that holds cells of another type than T lies as it lay. -/
def Keep (T : TypeId) (wb : Nat) (w w' : World) : Prop := ∀ x cs e fr, w.heap[x]? = some (.cells cs e fr) → x ≠ wb → e ≠ T → w'.heap[x]? = some (.cells cs e fr)
theorem Keep.refl (T : TypeId) (wb : Nat) (w : World) : Keep T wb w w := fun _ _ _ _ h _ _ => h
theorem Keep.trans {T : TypeId} {wb : Nat} {a b c : World} (h : Keep T wb a b) (k : Keep T wb b c) : Keep T wb a c := fun x cs e fr hx hne he => k x cs e fr (h x cs e fr hx hne he) hne he
theorem Keep.setBox {T : TypeId} {wb : Nat} {w w' : World} (h : Keep T wb w w') (i : Nat) (u : Value) : Keep T wb w (w'.setCell ⟨wb, i, none⟩ u) := fun x cs e fr hx hne he => row_setCell_other u (h x cs e fr hx hne he) hne
theorem Keep.setOwn {T : TypeId} {wb B size n g cap : Nat} {xs : List Value} {w w' : World} (h : Keep T wb w w') (hown : w'.ownsRow B T size (.slice (some ⟨g, 0, none⟩) n cap) n xs) (i : Nat) (u : Value) : Keep T wb w (w'.setCell ⟨g, i, none⟩ u) := fun x cs e fr hx hne he => by
  have h1 := h x cs e fr hx hne he
  have h2 := own_block_ne hown h1 (Ne.symm he)
  exact row_setCell_other u h1 (fun hg => h2 (by rw [hg]; rfl))
theorem Keep.grown {T : TypeId} {wb B size n : Nat} {v : Value} {xs : List Value} {w w' w2 : World} (h : Keep T wb w w') (hown : w'.ownsRow B T size v n xs) (hg : w'.grownBy w2 v.ownBlock) : Keep T wb w w2 := fun x cs e fr hx hne he => by
  have h1 := h x cs e fr hx hne he
  exact grown_block2 hg (own_block_ne hown h1 (Ne.symm he)) h1
theorem byte_low (s : List Bool) : byteAt s (s.length / 8) % 2 ^ (8 - s.length % 8) = 0 := by
  rw [← low_bits']
  intro j hj
  have := bit_byteAt s (s.length / 8) (7 - j) (by omega)
  rw [show 7 - (7 - j) = j from by omega] at this
  rw [this, List.getD_eq_getElem?_getD, List.getElem?_eq_none (by omega)]
  rfl

theorem or_bit (z bt : Int) (p : Nat) (hz0 : 0 ≤ z) (hz1 : z < 256) (hzl : z % 2 ^ (p + 1) = 0) (hb0 : 0 ≤ bt) (hb1 : bt ≤ 1) (hp : p < 8) : bits .or .u8 z (bt * 2 ^ p % 256) = z + bt * 2 ^ p := by
  have h1 : (2 : Int) ^ p ≤ 128 := by
    rw [two_pow_cast]
    have h1 : 2 ^ p ≤ 2 ^ 7 := Nat.pow_le_pow_right (by decide) (by omega)
    have h2 : 2 ^ 7 = 128 := by decide
    omega
  have h2 := two_pow_pos p
  have h3 : bt * 2 ^ p = 0 ∨ bt * 2 ^ p = 2 ^ p := by
    rcases (show bt = 0 ∨ bt = 1 by omega) with h | h
    · left; rw [h, Int.zero_mul]
    · right; rw [h, Int.one_mul]
  have hle : 0 ≤ bt * 2 ^ p ∧ bt * 2 ^ p ≤ 2 ^ p := by rcases h3 with h | h <;> omega
  generalize bt * 2 ^ p = y at *
  have e : y % 256 = y := by omega
  rw [e, u8_or z y hz0 hz1 (by omega) (by omega), nat_join (p + 1)]
  · omega
  · obtain ⟨n, rfl⟩ := Int.eq_ofNat_of_zero_le hz0
    rw [two_pow_cast] at hzl
    rw [Int.toNat_natCast]
    omega
  · have : 2 ^ p < 2 ^ (p + 1) := Nat.pow_lt_pow_right (by decide) (by omega)
    rw [two_pow_cast] at hle
    omega
theorem winv_step {w : World} {B wb g cap j p : Nat} {t : List Bool} {b : Bool} {z bt : Int} (hx : w.heap[wb]? = some (.cells #[.slice (some ⟨g, 0, none⟩) (room t).length cap, .int .i64 t.length] 74 (0, 0)))
    (hown : w.ownsRow B 5 1 (.slice (some ⟨g, 0, none⟩) (room t).length cap) (room t).length ((room t).map (Value.int .u8))) (hne : g ≠ wb)
    (hp : pack (t ++ [b]) = (room t).set (t.length / 8) (z + b2i b * 2 ^ (7 - t.length % 8))) (hj : t.length / 8 = j) (hpp : 7 - t.length % 8 = p) (hb : b2i b = bt) (hjl : j < (room t).length) :
    WInv ((w.setCell ⟨g, j, none⟩ (.int .u8 (z + bt * 2 ^ p))).setCell ⟨wb, 1, none⟩ (.int .i64 ((t.length : Int) + 1))).drew B wb (t ++ [b]) := by
  have h1 := row_setCell_other (i := j) (.int .u8 (z + bt * 2 ^ p)) hx (Ne.symm hne)
  have h2 := row_setCell 1 (.int .i64 ((t.length : Int) + 1)) h1
  have h3 := (hown.stored j (.int .u8 (z + bt * 2 ^ p))).1
  have h4 := ownsRow_setCell_other h3 (a := ⟨wb, 1, none⟩) (by simp [Value.ownBlock]; exact hne) (.int .i64 ((t.length : Int) + 1))
  refine ⟨.slice (some ⟨g, 0, none⟩) (room t).length cap, ?_, ?_⟩
  · have e : ((t ++ [b]).length : Int) = (t.length : Int) + 1 := by simp
    rw [e]
    exact h2
  · have h5 := h4.drew
    have e : pack (t ++ [b]) = (room t).set j (z + bt * 2 ^ p) := by rw [hp, hj, hpp, hb]
    rw [e, List.length_set, List.map_set]
    exact h5
theorem bit_and (v : Int) (k : Nat) (h0 : 0 ≤ v) (h1 : v < 18446744073709551616) : IntKind.u8.wrap (bits .and .u64 (v / 2 ^ k) 1) = b2i (bitI v k) := by
  have hq : 0 ≤ v / 2 ^ k := Int.ediv_nonneg h0 (Int.le_of_lt (two_pow_pos _))
  have hle : v / 2 ^ k ≤ v := Int.ediv_le_self _ h0
  rw [and_one _ hq (by omega), IntKind.wrap_u8']
  unfold bitI
  generalize v / 2 ^ k = q
  rcases (show q % 2 = 0 ∨ q % 2 = 1 by omega) with h | h <;> rw [h] <;> rfl
set_option maxRecDepth 100000 in
set_option maxHeartbeats 1000000 in
theorem wput_any (v : Int) (n : Nat) (s : List Bool) (B wb : Nat) (w : World) (h0 : 0 ≤ v) (h1 : v < 18446744073709551616) (hn : n ≤ 64) (hs : s.length ≤ 1000000) (hB : B ≤ wb) (hinv : WInv w B wb s) :
    Calls Tryd.prog 35 #[.pointer (some ⟨wb, 0, none⟩), .int .u64 v, .int .i64 n] w fun e w' => e = .returned (.tuple #[]) ∧ WInv w' B wb (s ++ signs v n) ∧ Below B w w' ∧ Keep 5 wb w w' := by
  go_enter Tryd.func35, Tryd.ntmps35
  go_wp2_with fail
  go_loopw [2] (fun i wr => ∃ (m : Nat) (t : List Bool), m ≤ n ∧ i = .int .i64 ((m : Int) - 1) ∧ t.length ≤ 2000000 ∧ WInv wr B wb t ∧ Below B w wr ∧ Hid (t ++ signs v m = s ++ signs v n) ∧ Hid (t.length + m = s.length + n) ∧ Hid (Keep 5 wb w wr)) (fun i _ => (intOf i + 1).toNat)
  case atStart => exact ⟨n, s, by omega, rfl, by omega, hinv, Below.refl _ _, rfl, rfl, Lib.hid (Keep.refl _ _ _)⟩
  case round =>
    obtain ⟨m, t, hm, rfl, ht, ⟨vB, hx, hown⟩, hbel, hst, hlen, HKP⟩ := hrel
    cases m with
    | zero =>
      have hfin : WInv wr B wb (s ++ signs v n) := by rw [← hst.out, signs, List.append_nil]; exact ⟨vB, hx, hown⟩
      have hneg : ((0 : Nat) : Int) - 1 < 0 := by omega
      go_wp2
      go_end0
      exact ⟨rfl, hfin, hbel, HKP.out⟩
    | succ k =>
      have e1 : ((k + 1 : Nat) : Int) - 1 = k := by omega
      rw [e1]
      have c1 : wr.cell? ⟨wb, 1, none⟩ = some (.int .i64 t.length) := (row_cell 1 _ hx rfl).1
      have hsz : B ≤ wr.heap.size := by have := (Array.getElem?_eq_some_iff.1 hx).1; omega
      have hpl : (pack t).length ≤ 1000000 := by rw [pack_len]; omega
      have hrl := room_len t
      by_cases hN : t.length % 8 = 0
      case' pos =>
        have t1 : ((t.length : Int) % 8 == 0) = true := by simp; omega
        have c0 : wr.cell? ⟨wb, 0, none⟩ = some vB := (row_cell 0 _ hx rfl).1
        have hne := own_block_ne hown hx (by decide)
        have HR : Hid (room t = pack t ++ [0]) := if_pos hN
        have HRL := Lib.hid hrl
        clear hrl
        go_upto_region 5 with (at_builtin; refine append1 [.int .u8 0] elU8 rfl _ _ rfl hown hbel hsz rfl rfl rfl (one_all _ rfl) (by omega) (by omega) ?_; intro v' w2 hown' hbel' hgr'; obtain ⟨g, cap, rfl, hg1, hg2, hc1, hc2, hcells⟩ := own_some hown' (by omega); have hx2 := grown_block2 hgr' hne hx; have c2 := (row_cell 0 _ hx2 rfl).1; have f2 := (row_cell 0 _ hx2 rfl).2)
        refine wp_abs (fun w3 => ∃ g cap, w3.heap[wb]? = some (.cells #[.slice (some ⟨g, 0, none⟩) (room t).length cap, .int .i64 t.length] 74 (0, 0)) ∧ w3.ownsRow B 5 1 (.slice (some ⟨g, 0, none⟩) (room t).length cap) (room t).length ((room t).map (Value.int .u8)) ∧ Below B w w3 ∧ Hid (Keep 5 wb w w3)) ?_ ?_
        · refine ⟨g, cap, ?_, ?_, hbel'.setCell (p := ⟨wb, 0, none⟩) hB _, Lib.hid ((HKP.out.grown hown hgr').setBox 0 _)⟩
          · have := row_setCell 0 (.slice (some ⟨g, 0, none⟩) ((pack t).length + 1) cap) hx2
            rw [HR.out, List.length_append]
            exact this
          · have h7 := own_block_ne hown' hx2 (by decide)
            have := ownsRow_setCell_other hown' (a := ⟨wb, 0, none⟩) h7 (.slice (some ⟨g, 0, none⟩) ((pack t).length + 1) cap)
            rw [HR.out, List.length_append, List.map_append]
            exact this
        rintro w3 ⟨g3, cap3, hx3, hown3, hbel3, HKP3⟩
        clear c0 c1 hown hbel hx
      case' neg =>
        have t1 : ((t.length : Int) % 8 == 0) = false := by simp; omega
        have HR : Hid (room t = pack t) := if_neg hN
        have HRL := Lib.hid hrl
        clear hrl
        go_upto_region 5 with (fail)
        refine wp_abs (fun w3 => ∃ g cap, w3.heap[wb]? = some (.cells #[.slice (some ⟨g, 0, none⟩) (room t).length cap, .int .i64 t.length] 74 (0, 0)) ∧ w3.ownsRow B 5 1 (.slice (some ⟨g, 0, none⟩) (room t).length cap) (room t).length ((room t).map (Value.int .u8)) ∧ Below B w w3 ∧ Hid (Keep 5 wb w w3)) ?_ ?_
        · obtain ⟨g, cap, rfl, _⟩ := own_some hown (by rw [pack_len]; omega)
          rw [HR.out]
          exact ⟨g, cap, hx, hown, hbel, HKP⟩
        rintro w3 ⟨g3, cap3, hx3, hown3, hbel3, HKP3⟩
        clear c1 hown hbel hx
      all_goals
        have c0 : w3.cell? ⟨wb, 0, none⟩ = some (.slice (some ⟨g3, 0, none⟩) (room t).length cap3) := (row_cell 0 _ hx3 rfl).1
        have c1 : w3.cell? ⟨wb, 1, none⟩ = some (.int .i64 t.length) := (row_cell 1 _ hx3 rfl).1
        have cz : w3.cell? ⟨g3, t.length / 8, none⟩ = some (.int .u8 (byteAt t (t.length / 8))) := by
          rw [hown3.cellAt _ (by rw [HRL.out]; omega)]
          have := room_get t
          rw [List.getD_eq_getElem?_getD, List.getElem?_eq_getElem (by rw [HRL.out]; omega)] at this
          rw [List.getElem?_map, List.getElem?_eq_getElem (by rw [HRL.out]; omega)]
          simp at this
          simp [this]
        have fz := hown3.frozenAt (t.length / 8)
        have hi1 : t.length / 8 < (room t).length := by rw [HRL.out]; omega
        have hzl := byte_low t
        have hzb := byteAt_bd t (t.length / 8)
        have HPS := Lib.hid (pack_snoc t (bitI v k))
        generalize byteAt t (t.length / 8) = z at *
        have f1 : w3.frozen? ⟨wb, 1, none⟩ = false := frozen_of_row w3 wb 1 _ _ hx3
        obtain ⟨j, hj⟩ : ∃ j, t.length / 8 = j := ⟨_, rfl⟩
        obtain ⟨p, hp⟩ : ∃ p, 7 - t.length % 8 = p := ⟨_, rfl⟩
        have r1 : IntKind.i64.wrap ((t.length : Int) / 8) = (j : Int) := by rw [IntWalk.i64_in _ (by omega)]; omega
        have r2 : IntKind.i64.wrap (7 - (t.length : Int) % 8) = (p : Int) := by rw [IntWalk.i64_in _ (by omega)]; omega
        have r3 : IntKind.i64.wrap (7 - (t.length : Int).tmod 8) = (p : Int) := by rw [Int.tmod_eq_emod_of_nonneg (by omega)]; exact r2
        obtain ⟨bt, hbt⟩ : ∃ bt, b2i (bitI v k) = bt := ⟨_, rfl⟩
        have r4 : IntKind.u8.wrap (bits .and .u64 (v / 2 ^ k) 1) = bt := by rw [← hbt]; exact bit_and v k h0 h1
        have hb0 : 0 ≤ bt ∧ bt ≤ 1 := by rw [← hbt]; exact b2i_bd _
        have HBT := Lib.hid hbt
        clear hbt r2
        have HJ := Lib.hid hj
        have HP := Lib.hid hp
        rw [hj] at cz fz hi1
        have hi2 : (j : Int) < (room t).length := by omega
        have hp8 : p < 8 := by omega
        have HOR : Hid (bits .or .u8 z (bt * 2 ^ p % 256) = z + bt * 2 ^ p) := or_bit z bt p hzb.1 hzb.2 (by rw [show p + 1 = 8 - t.length % 8 by omega]; exact hzl) hb0.1 hb0.2 hp8
        clear hj hp hzl
        have hg3B : B ≤ g3 := (hown3.lt g3 rfl).1
        have hne3 : wb ≠ g3 := by
          intro h
          have := own_block_ne hown3 hx3 (by decide)
          exact this (by rw [h]; rfl)
        have hne4 : g3 ≠ wb := fun h => hne3 h.symm
        go_still_tail 28, (by kernel_rfl)
        change wpList _ _ _ _ _ w3.drew
        go_wp2
        go_roundw
        case rel =>
          refine ⟨k, t ++ [bitI v k], by omega, rfl, by have := hlen.out; simp; omega, ?_, ?_, ?_, ?_, Lib.hid ((HKP3.out.setOwn hown3 j _).setBox 1 _)⟩
          · rw [HOR.out]
            exact winv_step hx3 hown3 hne4 HPS.out HJ.out HP.out HBT.out (by omega)
          · exact ((hbel3.setCell (p := ⟨g3, j, none⟩) hg3B _).setCell (p := ⟨wb, 1, none⟩) hB _).drew
          · show _ = _
            rw [← hst.out, List.append_assoc]
            rfl
          · show _ = _
            have := hlen.out
            simp; omega
        case measure => first | (simp [intOf]; done) | (simp [intOf]; omega)
end Go.Proofs.YtbifhmbfmoeofaaDoor.Bits
