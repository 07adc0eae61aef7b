/-
  The walk of (*Reader).Take: bits are read off.
-/
import Derived.Test.YtmbmognhbljliaaDoorLib2
import Derived.Test.YtmbmognhbljliaaDoorBits6
import Derived.Test.YtmbmognhbljliaaDoorBitsLaw3
import Derived.IntWalk
namespace Go.Proofs.YtmbmognhbljliaaDoor.Bits
open Go.RowKit Go.Gh Go.WideShapes
set_option linter.unusedVariables false

def RInv (w : World) (rb : Nat) (bs : Value) (N at' : Nat) (sh : Bool) : Prop :=
  w.heap[rb]? = some (.cells #[bs, .int .i64 N, .int .i64 at', .bool sh] 68 (0, 0))

def RRes (l : List Int) (N at' n : Nat) (sh : Bool) (V : Int) (at2 : Nat) (sh2 : Bool) : Prop :=
  if at' + n ≤ N then V = valF 0 (((unpack l N).drop at').take n) ∧ at2 = at' + n ∧ sh2 = sh else V = 0 ∧ at2 = N ∧ sh2 = true
theorem rstep (l : List Int) (V z : Int) (A : Nat) (h0 : 0 ≤ V) (h1 : V < 9223372036854775808) (hz0 : 0 ≤ z) (hz1 : z < 256) (HZ : l.getD (A / 8) 0 = z) :
    bits .or .u64 (IntKind.u64.wrap (V * 2)) (IntKind.u64.wrap (bits .and .u8 (z / 2 ^ (7 - A % 8)) 1)) = 2 * V + b2i (bitAt l A) := by
  have hq : 0 ≤ z / 2 ^ (7 - A % 8) := Int.ediv_nonneg hz0 (Int.le_of_lt (two_pow_pos _))
  have hle : z / 2 ^ (7 - A % 8) ≤ z := Int.ediv_le_self _ hz0
  have e1 : bits .and .u8 (z / 2 ^ (7 - A % 8)) 1 = b2i (bitAt l A) := by
    rw [u8_and _ 1 hq (by omega) (by decide) (by decide), show (1 : Int).toNat = 1 from rfl, nat_mask1]
    unfold bitAt bitI
    rw [HZ]
    generalize z / 2 ^ (7 - A % 8) = q at *
    rcases (show q % 2 = 0 ∨ q % 2 = 1 by omega) with h | h <;> rw [h] <;> simp [b2i] <;> omega
  rw [e1]
  have hb := b2i_bd (bitAt l A)
  generalize b2i (bitAt l A) = bt at *
  have e2 : IntKind.u64.wrap (V * 2) = V * 2 := by rw [IntKind.wrap_u64]; omega
  have e3 : IntKind.u64.wrap bt = bt := by rw [IntKind.wrap_u64]; omega
  rw [e2, e3, u64_or _ _ (by omega) (by omega) (by omega) (by omega), nat_join 1 _ _ (by omega) (by omega)]
  omega
theorem drop_take_snoc (l : List Int) (N a k : Nat) (h : a + k < N) : ((unpack l N).drop a).take (k + 1) = ((unpack l N).drop a).take k ++ [bitAt l (a + k)] := by
  have hl := unpack_len l N
  rw [List.take_succ_eq_append_getElem (by simp; omega)]
  congr 1
  simp [unpack]

/-- What a Take of n bits leaves. -/
def RTook (w : World) (rb : Nat) (bs : Value) (l : List Int) (N at' n : Nat) (sh : Bool) (e : Ending) (w' : World) : Prop :=
  ∃ V at2 sh2, e = .returned (.int .u64 V) ∧ RInv w' rb bs N at2 sh2 ∧ w.grownBy w' (some rb) ∧ RRes l N at' n sh V at2 sh2
theorem sl_old {w : World} {size n : Nat} {v : Value} {xs : List Value} (h : Sl w size v n xs) (hp : 0 < size) : 0 < n → v.ownBlock ≠ some w.heap.size := by
  intro hn h2
  obtain ⟨ao, cap, rfl, _, _, _, hl, h6⟩ := h
  obtain ⟨b, off, rfl, hc⟩ := h6 hn
  have hx : 0 < xs.length := by rw [hl]; exact Nat.mul_pos hn hp
  have := cell_lt (hc 0 xs[0] (by simp [hx]))
  simp [Value.ownBlock] at h2
  omega
theorem byteV {w : World} {bs : Value} {n : Nat} {zs : List Int} (h : Sl w 1 bs n (zs.map (Value.int .u8))) (hl : ∀ z ∈ zs, (Lit.int .u8 z).wf = true) {i : Nat} (hi : i < n) :
    ∃ b off c z, bs = .slice (some ⟨b, off, none⟩) n c ∧ n ≤ c ∧ c ≤ 9223372036854775807 ∧ w.cell? ⟨b, off + i, none⟩ = some (.int .u8 z) ∧ 0 ≤ z ∧ z < 256 ∧ Hid (zs.getD i 0 = z) := by
  obtain ⟨ao, c, rfl, h1, h2, _⟩ := h.shape
  obtain ⟨b, off, z, rfl, h3, h4, h5, h6⟩ := h.byte hl hi
  exact ⟨b, off, c, z, rfl, h1, h2, h3, h4, h5, h6⟩
theorem Sl.grown {w w' : World} {size n b : Nat} {v : Value} {xs : List Value} (h : Sl w size v n xs) (hg : w.grownBy w' (some b)) (hne : 0 < n → v.ownBlock ≠ some b) : Sl w' size v n xs := by
  obtain ⟨ao, cap, rfl, h2, h3, h4, h5, h6⟩ := h
  refine ⟨ao, cap, rfl, h2, h3, h4, h5, fun hn => ?_⟩
  obtain ⟨b', off, rfl, hc⟩ := h6 hn
  refine ⟨b', off, rfl, fun i u hu => ?_⟩
  exact hg.cell (hc i u hu) (by simpa [Value.ownBlock] using hne hn)

set_option maxRecDepth 100000 in
set_option maxHeartbeats 1000000 in
theorem rtake_any (bs : Value) (len : Nat) (l : List Int) (N at' n rb : Nat) (sh : Bool) (w : World) (hs : Sl w 1 bs len (l.map (Value.int .u8))) (hl : ∀ z ∈ l, (Lit.int .u8 z).wf = true) (hlen : len ≤ 140737488355328) (hN : N ≤ 8 * len) (hat : at' ≤ N) (hn : n ≤ 64)
    (hr : RInv w rb bs N at' sh) (hne : 0 < len → bs.ownBlock ≠ some rb) :
    Calls Tryd.prog 31 #[.pointer (some ⟨rb, 0, none⟩), .int .i64 n] w (RTook w rb bs l N at' n sh) := by
  go_enter Tryd.func31, Tryd.ntmps31
  go_wp2_with fail
  go_loopw [4, 5, 7] (fun r v i wr => ∃ (k : Nat) (V : Int), k ≤ n ∧ at' + k ≤ N ∧ i = .int .i64 k ∧ v = .int .u64 V ∧ r = .int .u64 0 ∧ 0 ≤ V ∧ V < 2 ^ k ∧ Hid (V = valF 0 (((unpack l N).drop at').take k)) ∧ RInv wr rb bs N (at' + k) sh ∧ w.grownBy wr (some rb)) (fun _ _ i _ => n - (intOf i).toNat)
  case atStart => exact ⟨0, 0, by omega, by omega, rfl, rfl, rfl, by omega, by decide, rfl, hr, World.grownBy.refl _ _⟩
  case round =>
    obtain ⟨k, V, hk, hak, rfl, rfl, rfl, hV0, hV1, hV, hr, hg⟩ := hrel
    by_cases hlt : k < n
    · have c1 : wr.cell? ⟨rb, 1, none⟩ = some (.int .i64 N) := (row_cell 1 _ hr rfl).1
      have c2 : wr.cell? ⟨rb, 2, none⟩ = some (.int .i64 (at' + k : Nat)) := (row_cell 2 _ hr rfl).1
      have c3 : wr.cell? ⟨rb, 3, none⟩ = some (.bool sh) := (row_cell 3 _ hr rfl).1
      have f3 : wr.frozen? ⟨rb, 3, none⟩ = false := frozen_of_row wr rb 3 _ _ hr
      by_cases hmore : at' + k < N
      · obtain ⟨b, off, c, z, rfl, hc1, hc2, hcell, hz0, hz1, HZ⟩ := byteV (Sl.grown hs hg hne) hl (show (at' + k) / 8 < len by omega)
        have c0 : wr.cell? ⟨rb, 0, none⟩ = some (.slice (some ⟨b, off, none⟩) len c) := (row_cell 0 _ hr rfl).1
        have d1 : decide ((N : Int) ≤ (at' + k : Nat)) = false := by simp; omega
        have f2 : wr.frozen? ⟨rb, 2, none⟩ = false := frozen_of_row wr rb 2 _ _ hr
        have HA0 : Hid (at' + k = at' + k) := rfl
        obtain ⟨A, hA⟩ : ∃ A, at' + k = A := ⟨_, rfl⟩
        have HA := Lib.hid hA
        have hAN : A < N := by omega
        rw [hA] at hcell HZ c2 d1 hr
        clear hA hmore HA0
        have hVb : V < 9223372036854775808 := by
          have h1 : (2 : Int) ^ k ≤ 9223372036854775808 := by
            rw [two_pow_cast]
            have h1 : 2 ^ k ≤ 2 ^ 63 := Nat.pow_le_pow_right (by decide) (by omega)
            have h2 : 2 ^ 63 = 9223372036854775808 := by decide
            omega
          omega
        have HS := Lib.hid (rstep l V z A hV0 hVb hz0 hz1 HZ.out)
        have HV2 : Hid (2 * V + b2i (bitAt l A) = valF 0 (((unpack l N).drop at').take (k + 1))) := by
          show _ = _
          rw [drop_take_snoc l N at' k (by have := HA.out; omega), valF_snoc, hV.out, HA.out]
        have hVp : 2 * V + b2i (bitAt l A) < 2 ^ (k + 1) := by
          have := b2i_bd (bitAt l A)
          rw [Int.pow_succ]
          omega
        have hVn : 0 ≤ 2 * V + b2i (bitAt l A) := by
          have := b2i_bd (bitAt l A)
          omega
        generalize 2 * V + b2i (bitAt l A) = V2 at *
        obtain ⟨j, hj⟩ : ∃ j, A / 8 = j := ⟨_, rfl⟩
        have r1 : IntKind.i64.wrap ((A : Int) / 8) = (j : Int) := by rw [IntWalk.i64_in _ (by omega)]; omega
        have hjl : (j : Int) < len := by omega
        rw [hj] at hcell
        clear hj
        go_wp2_with fail
        go_quiet (fail)
        go_wp2
        go_quiet (fail)
        go_wp2
        go_roundw
        case rel =>
          refine ⟨k + 1, V2, by omega, by have := HA.out; omega, by go_num, ?_, rfl, hVn, hVp, HV2, ?_, grown_setCell (grown_drewN hg _) _ _⟩
          · have e2 : IntKind.u64.wrap (V * 2) = V * 2 := by rw [IntKind.wrap_u64]; omega
            have := HS.out
            rw [e2] at this
            rw [this]
          · have := row_setCell 2 (.int .i64 ((A : Int) + 1)) hr
            rw [show at' + (k + 1) = A + 1 from by have := HA.out; omega]
            exact this
        case measure => simp [intOf]; omega
      · have d1 : decide ((N : Int) ≤ (at' + k : Nat)) = true := by simp; omega
        have hfin : RRes l N at' n sh 0 N true := by
          unfold RRes
          rw [if_neg (by omega)]
          exact ⟨rfl, rfl, rfl⟩
        have hakN : at' + k = N := by omega
        generalize at' + k = A at *
        subst hakN
        go_wp2_with fail
        go_quiet (fail)
        go_wp2
        go_ret
        refine ⟨0, A, true, rfl, ?_, grown_setCell (grown_drewN hg _) _ _, hfin⟩
        exact row_setCell 3 (.bool true) hr
    · obtain rfl : k = n := by omega
      have hfin : RRes l N at' k sh V (at' + k) sh := by
        unfold RRes
        rw [if_pos hak]
        exact ⟨hV.out, rfl, rfl⟩
      go_wp2
      go_ret
      exact ⟨V, _, sh, rfl, hr, hg, hfin⟩
end Go.Proofs.YtmbmognhbljliaaDoor.Bits
