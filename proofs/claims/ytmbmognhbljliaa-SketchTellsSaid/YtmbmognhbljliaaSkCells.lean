/-
  The walk of sketch.cells.
-/
import Derived.Test.YtmbmognhbljliaaSkHash
import Derived.Test.YtmbmognhbljliaaLib6
namespace Go.Proofs.Ytmbmognhbljliaa.Sk
open Go.RowKit Go.Gh
set_option linter.unusedVariables false
def caL (S : ByteArray) (W k : Nat) : List Int := (List.range k).map fun i => (ca S W i : Int)
theorem caL_len (S : ByteArray) (W k : Nat) : (caL S W k).length = k := by unfold caL; simp
theorem caL_succ (S : ByteArray) (W k : Nat) : caL S W (k + 1) = caL S W k ++ [(ca S W k : Int)] := by unfold caL; rw [List.range_succ, List.map_append]; rfl
theorem infoInt : (Try.prog.info? 3).map (fun i => (i.zero, i.size, i.bytes)) = some (some (.int .i64 0), 1, 8) := by kernel_rfl
theorem elInt : Elem Try.prog 112 3 1 8 := elem_of Try.underlying112 infoInt rfl (by decide)
def CellsAt (base : Nat) (S : ByteArray) (W k : Nat) (wA : World) (t : Value) (wx : World) : Prop := wx.ownsRow base 3 1 t k ((caL S W k).map (Value.int .i64)) ∧ Below base wA wx
set_option maxHeartbeats 4000000 in
set_option maxRecDepth 100000 in
theorem cells_any (v : Value) (D W : Nat) (N : Int) (c : List Int) (S : ByteArray) (w : World) (hv : SkV w v D W c N) (hD : D ≤ 8) (hW : 1 ≤ W) (hW2 : W ≤ 200) (hS : S.size ≤ 140737488355328) :
    Calls Try.prog 83 #[v, .string S] w fun e w' => ∃ u, e = .returned u ∧ w'.ownsRow w.heap.size 3 1 u D ((caL S W D).map (Value.int .i64)) ∧ Below w.heap.size w w' := by
  obtain ⟨cv, n, rfl, -⟩ := hv
  have hconv : ∀ W', (convert 9 23 (.string S)).run Try.prog W' = .ok (.slice (some ⟨W'.heap.size, 0, none⟩) S.size (grownCap W' S.size 0 5)) (Lib.bytesWorld W' 5 S) := fun W' => Lib.run_convert_string_bytes W' 9 23 5 S Try.underlying9 Try.underlying23 Try.underlying5
  go_enter Try.func83, Try.ntmps83
  go_wp2_with fail
  refine wp_abs (fun w1 => w1.cell? ⟨w.heap.size, 1, none⟩ = some (.int .i64 W) ∧ Below w.heap.size w w1 ∧ w.heap.size + 1 ≤ w1.heap.size) ⟨cell_new w _ [.int .i64 D, .int .i64 W, cv, .int .i64 N] 1 _ rfl, (Below.refl _ _).alloc (Nat.le_refl _) _, by simp⟩ ?_
  rintro wA ⟨hA1, hAb, hAs⟩
  obtain ⟨base, hbase⟩ : ∃ base, w.heap.size + 1 = base := ⟨_, rfl⟩
  rw [hbase] at hAs
  have hlt : w.heap.size < base := by omega
  have HA1 := Lib.hid hA1
  clear hA1
  go_loopw [5, 6, 9] (fun u _ i wx => ∃ k : Nat, k ≤ D ∧ i = .int .i64 k ∧ CellsAt base S W k wA u wx) (fun _ _ i _ => D - (intOf i).toNat)
  case atStart => exact ⟨0, Nat.zero_le _, rfl, World.ownsRow_nil _ _ _ _, Below.refl _ _⟩
  case round =>
    obtain ⟨k, hk, rfl, hown, hbel⟩ := hrel
    by_cases hkD : k < D
    · have h1 := (hbel.cell (p := ⟨w.heap.size, 1, none⟩) hlt).trans HA1.out
      have hsz : base ≤ wr.heap.size := Nat.le_trans hAs hbel.size
      have hbd := Hash.hashI_bd k (kb S) (by omega) (by unfold Hash.M64; omega) S.size
      have HC := Lib.hid (ca_int S (i := k) hW)
      obtain ⟨H, hH⟩ : ∃ H, Hash.hashI k (kb S) S.size = H := ⟨_, rfl⟩
      have HH := Lib.hid hH
      rw [hH] at hbd
      unfold Hash.M64 at hbd
      obtain ⟨IW, hIW⟩ : ∃ IW : Nat, k * W = IW := ⟨_, rfl⟩
      have hIWi : (k : Int) * (W : Int) = (IW : Int) := by rw [← hIW]; exact (Int.natCast_mul k W).symm
      have hIWb : IW ≤ 1600 := by rw [← hIW]; exact Nat.mul_le_mul (show k ≤ 8 by omega) hW2
      have HIW := Lib.hid hIW
      clear hH hIW
      have hW0 : ¬ W = 0 := by omega
      obtain ⟨R, hR⟩ : ∃ R : Nat, H % W = R := ⟨(H % W).toNat, (Int.toNat_of_nonneg (Int.emod_nonneg _ (by omega))).symm⟩
      have hRb : R < W := by
        have : H % (W : Int) < W := Int.emod_lt_of_pos _ (by omega)
        omega
      have htm : H.tmod W = (R : Int) := by rw [Int.tmod_eq_emod_of_nonneg hbd.1, hR]
      have HV : Hid ((ca S W k : Int) = (IW : Int) + R) := Lib.hid (by rw [HC.out, HH.out, hR, hIWi])
      have HV2 : Hid (IntKind.i64.wrap (IntKind.i64.wrap (IW : Int) + IntKind.i64.wrap (R : Int)) = (ca S W k : Int)) := Lib.hid (by
        rw [HV.out]
        exact wrap_two (by omega) (by omega))
      have HR := Lib.hid hR
      clear hR HV
      have hui : IntKind.u64.wrap (k : Int) = k := by rw [IntKind.wrap_u64]; omega
      have huw : IntKind.u64.wrap (W : Int) = W := by rw [IntKind.wrap_u64]; omega
      have hltw : w.heap.size < wr.heap.size := by omega
      have hcd : (Lib.bytesWorld wr.drew 5 S).cell? ⟨w.heap.size, 1, none⟩ = some (.int .i64 W) := by rw [conv_cell _ _ _ (by simpa using hltw)]; simpa using h1
      have hsl : Sl (Lib.bytesWorld wr.drew 5 S) 1 (.slice (some ⟨wr.heap.size, 0, none⟩) S.size (grownCap wr.drew S.size 0 5)) S.size ((kb S).map (Value.int .u8)) := conv_sl wr.drew 5 S hS
      have hbb : Below wr.heap.size wr (Lib.bytesWorld wr.drew 5 S) := ((Below.refl _ wr).drew).trans (conv_below wr.drew 5 S)
      have hbe : Below base wA (Lib.bytesWorld wr.drew 5 S) := hbel.trans (hbb.mono hsz)
      have hownW : (Lib.bytesWorld wr.drew 5 S).ownsRow base 3 1 u5 k ((caL S W k).map (Value.int .i64)) := own_below hown hbb
      have hszW : base ≤ (Lib.bytesWorld wr.drew 5 S).heap.size := Nat.le_trans hsz hbb.size
      have HCALL := Hash.of_any k _ S.size (kb S) (by omega) (by unfold Hash.M64; omega) _ hsl (kb_wf S)
      rw [HH.out] at HCALL
      have HCA := Lib.hid HCALL
      have HOW := Lib.hid hownW
      have HBW := Lib.hid hbe
      have HSW := Lib.hid hszW
      clear HCALL hsl hbb hbe hownW hszW hbel hbd hIWb hRb
      obtain ⟨ao, cp, rfl, _⟩ := own_shape hown
      have hk63 : (k + 1) * 8 ≤ 140737488355328 := by omega
      clear hown
      go_upto_region 5 with (fail)
      go_region_law (first
        | (refine step_app1 [Value.int .i64 (IntKind.i64.wrap (IntKind.i64.wrap (IW : Int) + IntKind.i64.wrap (R : Int)))] elInt rfl _ _ rfl HOW.out HBW.out (Nat.le_refl _) HSW.out rfl rfl rfl (by intro u hu; simp at hu; subst hu; rfl) hk63 (by omega) ?_; intro g cap w2 hown' hbel' hgr')
        | (go_simp; go_at_call 24; refine HCA.out.mono ?_; rintro e w2 ⟨rfl, rfl⟩))
      all_goals (have HCE : Hid (CellsAt base S W (k + 1) wA (.slice (some ⟨g, 0, none⟩) (k + 1) cap) w2) := Lib.hid (by rw [HV2.out] at hown'; exact ⟨by rw [caL_succ, List.map_append]; exact hown', hbel'⟩); clear hown' hbel' hgr'; go_wp2_with fail; go_roundw)
      all_goals first
        | exact ⟨k + 1, by omega, by go_num, HCE.out⟩
        | (simp [intOf]; omega)
    · obtain rfl : k = D := by omega
      go_wp2_with fail
      go_ret
      exact ⟨_, rfl, own_mono hown (by omega), hAb.trans (hbel.mono (by omega))⟩
end Go.Proofs.Ytmbmognhbljliaa.Sk
