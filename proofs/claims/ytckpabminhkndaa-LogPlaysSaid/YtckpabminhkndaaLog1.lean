/-
  The walks of log.Frame and Framed.
-/
import Derived.Test.YtckpabminhkndaaLogLaw
import Derived.Test.YtckpabminhkndaaLib6
import Derived.Test.YtckpabminhkndaaCuts
import Derived.Test.YtckpabminhkndaaBytesClone
import Derived.IntWalk
namespace Go.Proofs.Ytckpabminhkndaa.Log
open Go.RowKit Go.Gh Go.Proofs.Ytckpabminhkndaa.Bits Go.Proofs.Ytckpabminhkndaa.Hash
set_option linter.unusedVariables false
def FPost (l : List Int) (w : World) (e : Ending) (w' : World) : Prop := ∃ v, e = .returned (.tuple #[v, .int .i64 0]) ∧ w'.ownsRow w.heap.size 5 1 v (frm l).length ((frm l).map (Value.int .u8)) ∧ Below w.heap.size w w'
theorem frame_large (v : Value) (n : Nat) (l : List Int) (w : World) (hv : Sl w 1 v n (l.map (Value.int .u8))) (hn : 2000 < n) :
    Calls Try.prog 21 #[v] w fun e w' => e = .returned (.tuple #[.slice none 0 0, .int .i64 2]) ∧ w' = w := by
  obtain ⟨ao, c, rfl, hnc, hc, _⟩ := hv.shape
  go_enter Try.func21, Try.ntmps21
  go_wp2_with fail
  go_ret2
  exact ⟨rfl, rfl⟩
set_option maxHeartbeats 4000000 in
set_option maxRecDepth 100000 in
theorem frame_any (v : Value) (n : Nat) (l : List Int) (w : World) (hv : Sl w 1 v n (l.map (Value.int .u8))) (hl : l.length = n) (hb : BytesL l) (hn : n ≤ 2000) :
    Calls Try.prog 21 #[v] w (FPost l w) := by
  obtain ⟨ao, c, rfl, hnc, hc, _⟩ := hv.shape
  have HV := Lib.hid hv
  have hbd := hashI_bd n l (by omega) (by unfold M64; omega) n
  obtain ⟨H, hH⟩ : ∃ H, hashI n l n = H := ⟨_, rfl⟩
  have HF : Hid (frm l = putI 9 n ++ l ++ h8 H) := Lib.hid (by unfold frm; rw [hl, hH])
  rw [hH] at hbd
  unfold M64 at hbd
  have HH := Lib.hid hH
  have HWF := Lib.hid (bytesL_wf hb)
  have hpl := putI_len 9 (n : Int)
  obtain ⟨p, hp⟩ : ∃ p, (putI 9 (n : Int)).length = p := ⟨_, rfl⟩
  have HP := Lib.hid hp
  rw [hp] at hpl
  have hui : IntKind.u64.wrap (n : Int) = n := by rw [IntKind.wrap_u64]; omega
  have HLN := Lib.hid hl
  clear hH hv hl hb hp
  go_enter Try.func21, Try.ntmps21
  go_wp2_with fail
  refine (put_any n (by omega) (by omega) _).mono ?_
  rintro e w1 ⟨v1, rfl, hown1, hb1⟩
  rw [HP.out] at hown1
  have hV1 := HV.out.below hb1
  go_wp2_with (at_builtin; refine wpList_append_any elU8 rfl _ _ rfl hown1 rfl rfl hV1 (ints_one _ _) ?c1 ?c2 ?c3 hb1.size ?_)
  case c1 => omega
  case c2 => omega
  case c3 => omega
  intro g cap w2 hown2 hg2
  have hb2 : Below w.heap.size w w2 := Below.grown hb1 hg2 hb1.size (fun k hk => (hown1.lt _ hk).1)
  have hV2 := HV.out.below hb2
  have HOW2 := Lib.hid hown2
  clear hown1 hown2 hg2 hV1
  go_wp2_with fail
  refine (of_any n _ n l (by omega) (by unfold M64; omega) _ hV2 HWF.out).mono ?_
  rw [HH.out]
  rintro e w3 ⟨rfl, rfl⟩
  have HB2 := Lib.hid hb2
  clear hV2 hb1 hb2
  go_wp2_with fail
  go_loopw [5, 7] (fun u i wx => ∃ (q m : Nat), q ≤ 8 ∧ i = .int .i64 (56 - 8 * (q : Int)) ∧ m = p + n + q ∧ Hid (wx.ownsRow w.heap.size 5 1 u m ((putI 9 (n : Int) ++ l ++ headF H q).map (Value.int .u8))) ∧ Hid (Below w.heap.size w wx)) (fun _ i _ => ((intOf i) + 8).toNat)
  case atStart => exact ⟨0, p + n, by omega, by simp, by omega, Lib.hid (by have := HOW2.out; simpa [headF] using this), HB2⟩
  case round =>
    obtain ⟨q, m, hq, rfl, hm, HO, HB⟩ := hrel
    obtain ⟨ao2, c2, rfl, _, _, _⟩ := own_shape HO.out
    by_cases hlt : q < 8
    · obtain ⟨j, hj⟩ : ∃ j : Nat, 56 - 8 * (q : Int) = j := ⟨56 - 8 * q, by omega⟩
      have hj2 : 56 - 8 * q = j := by omega
      rw [hj]
      have hown := HO.out
      have hsz := HB.out.size
      obtain ⟨z, hz⟩ : ∃ z, IntKind.u8.wrap (H / 2 ^ j) = z := ⟨_, rfl⟩
      have HZ : Hid (headF H (q + 1) = headF H q ++ [z]) := Lib.hid (by rw [headF_succ, hj2, ← hz, IntKind.wrap_u8'])
      go_wp2_with (at_builtin; refine append1 [Value.int .u8 z] elU8 rfl _ _ rfl hown HB.out hsz rfl rfl rfl (by intro u hu; simp at hu; subst hu; rfl) ?c4 ?c5 ?_)
      case c4 => omega
      case c5 => omega
      intro v' w4 hown4 hb4 _
      have HO4 : Hid (w4.ownsRow w.heap.size 5 1 v' (m + 1) ((putI 9 (n : Int) ++ l ++ headF H (q + 1)).map (Value.int .u8))) := Lib.hid (by rw [HZ.out, hm]; simpa using hown4)
      have HB4 := Lib.hid hb4
      clear hown4 hb4 hown
      go_wp2_with fail
      go_roundw
      case rel => exact ⟨q + 1, m + 1, by omega, congrArg (Value.int .i64) (by omega), by omega, HO4, HB4⟩
      case measure => simp [intOf]; omega
    · obtain rfl : q = 8 := by omega
      go_wp2_with fail
      go_ret2
      refine ⟨_, rfl, ?_, HB.out⟩
      have e : (putI 9 (n : Int) ++ l ++ h8 H).length = p + n + 8 := by rw [List.length_append, List.length_append, h8_len, HP.out, HLN.out]
      rw [HF.out, e, ← hm]
      exact HO.out
def FdPost (l : List Int) (w : World) (e : Ending) (w' : World) : Prop := ∃ v, e = .returned v ∧ w'.ownsRow w.heap.size 5 1 v (frm l).length ((frm l).map (Value.int .u8)) ∧ Below w.heap.size w w'
set_option maxHeartbeats 4000000 in
set_option maxRecDepth 100000 in
theorem framed_any (v : Value) (n : Nat) (l : List Int) (w : World) (hv : Sl w 1 v n (l.map (Value.int .u8))) (hl : l.length = n) (hb : BytesL l) (hn : n ≤ 2000) :
    Calls Try.prog 25 #[v] w (FdPost l w) := by
  obtain ⟨ao, c, rfl, hnc, hc, _⟩ := hv.shape
  have HV := Lib.hid hv
  have hbd := hashI_bd n l (by omega) (by unfold M64; omega) n
  obtain ⟨H, hH⟩ : ∃ H, hashI n l n = H := ⟨_, rfl⟩
  have HF : Hid (frm l = putI 9 n ++ l ++ h8 H) := Lib.hid (by unfold frm; rw [hl, hH])
  rw [hH] at hbd
  unfold M64 at hbd
  have HH := Lib.hid hH
  have HWF := Lib.hid (bytesL_wf hb)
  have hpl := putI_len 9 (n : Int)
  obtain ⟨p, hp⟩ : ∃ p, (putI 9 (n : Int)).length = p := ⟨_, rfl⟩
  have HP := Lib.hid hp
  rw [hp] at hpl
  have hui : IntKind.u64.wrap (n : Int) = n := by rw [IntKind.wrap_u64]; omega
  have HLN := Lib.hid hl
  clear hH hv hl hb hp
  go_enter Try.func25, Try.ntmps25
  go_wp2_with fail
  refine (bytesof_any 9 n (by omega) (by omega) (by omega) (lt_fuel (by omega)) _).mono ?_
  rintro e w1 ⟨v1, rfl, hown1, hb1⟩
  rw [HP.out] at hown1
  have hV1 := HV.out.below hb1
  go_wp2_with (at_builtin; refine wpList_append_any elU8 rfl _ _ rfl hown1 rfl rfl hV1 (ints_one _ _) ?c1 ?c2 ?c3 hb1.size ?_)
  case c1 => omega
  case c2 => omega
  case c3 => omega
  intro g cap w2 hown2 hg2
  have hb2 : Below w.heap.size w w2 := Below.grown hb1 hg2 hb1.size (fun k hk => (hown1.lt _ hk).1)
  have hV2 := HV.out.below hb2
  have HOW2 := Lib.hid hown2
  clear hown1 hown2 hg2 hV1
  go_wp2_with fail
  refine (hashof_any n _ n l (by omega) (by unfold M64; omega) _ hV2 HWF.out).mono ?_
  rw [HH.out]
  rintro e w3 ⟨rfl, rfl⟩
  have HB2 := Lib.hid hb2
  have hsz2 := hb2.size
  clear hV2 hb1 hb2
  go_wp2_with fail
  go_loopw [4, 5, 17] (fun h u i wx => ∃ (q : Nat) (T : Int), q ≤ 8 ∧ i = .int .i64 q ∧ h = .int .u64 T ∧ 0 ≤ T ∧ T < 18446744073709551616 ∧ Hid (T = H / 2 ^ (8 * q)) ∧ Hid (wx.ownsRow w2.heap.size 5 1 u q ((endF H q).map (Value.int .u8))) ∧ Hid (Below w2.heap.size w2 wx)) (fun _ _ i _ => 8 - (intOf i).toNat)
  case atStart => exact ⟨0, H, by omega, rfl, rfl, hbd.1, hbd.2, by show _ = _; simp, Lib.hid (World.ownsRow_nil _ _ _ _), Lib.hid (Below.refl _ _)⟩
  case round =>
    obtain ⟨q, T, hq, rfl, rfl, hT0, hT1, HT, HO, HB⟩ := hrel
    obtain ⟨ao2, c2, rfl, _, _, _⟩ := own_shape HO.out
    by_cases hlt : q < 8
    · obtain ⟨z, hz⟩ : ∃ z, T % 256 = z := ⟨_, rfl⟩
      have hz2 : 0 ≤ z ∧ z < 256 := by omega
      have HZ : Hid (endF H (q + 1) = z :: endF H q) := Lib.hid (by rw [endF_succ, ← hz, HT.out])
      have HT2 : Hid (T / 256 = H / 2 ^ (8 * (q + 1))) := Lib.hid (by
        rw [HT.out, Int.ediv_ediv_of_nonneg (Int.le_of_lt (Int.pow_pos (by omega))), show 8 * (q + 1) = 8 * q + 8 from by omega, Int.pow_add]
        rfl)
      have hsz := HB.out.size
      have hlit := own_build (B := wr.heap.size) (e := 5) (size := 1) (n := 1) wr [Value.int .u8 z] (Nat.le_refl _) rfl (by decide)
      have hsl := (own_sl HO.out).alloc (Obj.cells [Value.int .u8 z].toArray 5)
      go_wp2_with (at_builtin; refine wpList_append_any elU8 rfl _ _ rfl hlit rfl rfl hsl (ints_one _ _) ?c1 ?c2 ?c3 ?c4 ?_)
      case c1 => omega
      case c2 => omega
      case c3 => omega
      case c4 => simp
      intro g2 cap2 w4 hown4 hg4
      have HB4 : Hid (Below w2.heap.size w2 w4) := Lib.hid (Below.grown (HB.out.alloc hsz _) hg4 (by simp; omega) (fun k hk => by simp [Value.ownBlock] at hk; omega))
      have HO4 : Hid (w4.ownsRow w2.heap.size 5 1 (.slice (some ⟨g2, 0, none⟩) (q + 1) cap2) (q + 1) ((endF H (q + 1)).map (Value.int .u8))) := Lib.hid (by
        rw [HZ.out, Nat.add_comm q 1]
        exact own_mono hown4 hsz)
      have hT3 : 0 ≤ T / 256 ∧ T / 256 < 18446744073709551616 := by omega
      rw [Nat.add_comm 1 q]
      clear hown4 hg4 hlit hsl
      go_wp2_with fail
      go_roundw
      case rel => exact ⟨q + 1, T / 256, by omega, by go_num, rfl, hT3.1, hT3.2, HT2, HO4, HB4⟩
      case measure => simp [intOf]; omega
    · obtain rfl : q = 8 := by omega
      have hownW := own_below HOW2.out HB.out
      have hsl := own_sl HO.out
      have hsz := HB.out.size
      go_wp2_with (at_builtin; refine wpList_append_any elU8 rfl _ _ rfl hownW rfl rfl hsl (ints_one _ _) ?c1 ?c2 ?c3 ?c4 ?_)
      case c1 => omega
      case c2 => omega
      case c3 => omega
      case c4 => omega
      intro g2 cap2 w4 hown4 hg4
      have hb4 : Below w.heap.size w w4 := Below.grown (HB2.out.trans (HB.out.mono hsz2)) hg4 (by omega) (fun k hk => (hownW.lt _ hk).1)
      have e : (putI 9 (n : Int) ++ l ++ h8 H).length = p + n + 8 := by rw [List.length_append, List.length_append, h8_len, HP.out, HLN.out]
      have HFIN : Hid (w4.ownsRow w.heap.size 5 1 (.slice (some ⟨g2, 0, none⟩) (p + n + 8) cap2) (frm l).length ((frm l).map (Value.int .u8))) := Lib.hid (by
        rw [HF.out, e, ← endF_all, List.map_append, List.map_append, List.append_assoc]
        exact hown4)
      clear hown4 hownW hsl hg4
      go_wp2_with fail
      go_ret
      exact ⟨_, rfl, HFIN.out, hb4⟩
end Go.Proofs.Ytckpabminhkndaa.Log
