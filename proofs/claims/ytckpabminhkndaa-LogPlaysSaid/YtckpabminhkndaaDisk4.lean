/-
  The walks of both Crashes.
-/
import Derived.Test.YtckpabminhkndaaDisk3
namespace Go.Proofs.Ytckpabminhkndaa.Disk
open Go.RowKit Go.Gh Go.WideShapes Go.Proofs.Ytckpabminhkndaa.Bits Go.Proofs.Ytckpabminhkndaa.Log
set_option linter.unusedVariables false
set_option maxHeartbeats 4000000 in
set_option maxRecDepth 100000 in
theorem crash_any (u : Value) (B h s : Nat) (D : List Int) (k : Int) (w : World) (hd : DK w 65 B h u D s) (hD : D.length ≤ 40000) (hB : B ≤ w.heap.size) (hk1 : -9223372036854775808 ≤ k) (hk2 : k < 9223372036854775808) :
    Calls Try.prog 30 #[.pointer (some ⟨h, 0, none⟩), .int .i64 k] w (CrPost w 65 B h u D s k) := by
  have HD := Lib.hid hd
  obtain ⟨x0, x1, f0, f1⟩ := box2 hd.1
  obtain ⟨N, hN⟩ : ∃ N, D.length = N := ⟨_, rfl⟩
  have HN := Lib.hid hN
  have hs : s ≤ N := by rw [← hN]; exact hd.2.2.2.2
  rw [hN] at hD
  obtain ⟨ao, c, rfl, hNc, hc⟩ : ∃ ao c, u = .slice ao N c ∧ N ≤ c ∧ c ≤ 9223372036854775807 := by
    obtain ⟨ao, c, h1, h2, h3, _⟩ := own_shape hd.2.1
    rw [hN] at h1 h2
    exact ⟨ao, c, h1, h2, h3⟩
  have HSU : Hid (Sl w 1 (.slice ao N c) N (D.map (Value.int .u8))) := Lib.hid (by rw [← hN]; have := own_sl hd.2.1; rw [← hN] at this; exact this)
  have hw1 : IntKind.i64.wrap ((N : Int) - (s : Int)) = (N : Int) - s := IntWalk.i64_in _ (by omega)
  by_cases hneg : k < 0
  · have HP : Hid (crS D s k = (1, D, s)) := Lib.hid (by unfold crS; rw [if_pos (Or.inl hneg)])
    clear hd hN
    go_enter Try.func30, Try.ntmps30
    go_upto_region 1 with (fail)
    go_quiet (fail)
    go_wp2
    go_ret
    exact crash_still HP.out HD.out hB
  by_cases hbig : (N : Int) - s < k
  · have HP : Hid (crS D s k = (1, D, s)) := Lib.hid (by unfold crS; rw [if_pos (Or.inr (by omega))])
    clear hd hN
    go_enter Try.func30, Try.ntmps30
    go_upto_region 1 with (fail)
    go_quiet (fail)
    go_wp2
    go_ret
    exact crash_still HP.out HD.out hB
  obtain ⟨k', rfl⟩ : ∃ k' : Nat, k = k' := ⟨k.toNat, by omega⟩
  obtain ⟨P, hP⟩ : ∃ P, s + k' = P := ⟨_, rfl⟩
  have hPN : P ≤ N := by omega
  have hPl : (D.take P).length = P := by rw [List.length_take]; omega
  obtain ⟨m, hm⟩ : ∃ m, (cutF ((D.take P).length + 1) (D.take P)).2 = m := ⟨_, rfl⟩
  have hmP : m ≤ P := by rw [← hm]; have := cut_le ((D.take P).length + 1) (D.take P); omega
  have HM := Lib.hid hm
  have HP : Hid (crS D s k' = (0, D.take m, m)) := Lib.hid (by
    unfold crS
    rw [if_neg (by omega)]
    simp only [Int.toNat_natCast, hP, hm])
  have HSP : Hid (Sl w 1 (.slice ao P c) P ((D.take P).map (Value.int .u8))) := Lib.hid (by
    have h1 : w.ownsRow B 5 1 (.slice ao N c) N (D.map (Value.int .u8)) := by have := hd.2.1; rw [hN] at this; exact this
    have h2 := own_sl (own_take h1 hPN)
    rw [← List.map_take] at h2
    exact h2)
  have HPL := Lib.hid hPl
  have HBP := Lib.hid (bytesL_take hd.2.2.2.1 P)
  have hw2 : IntKind.i64.wrap ((s : Int) + (k' : Int)) = (P : Int) := by rw [IntWalk.i64_in _ (by omega)]; omega
  have hP0 : (0 : Int) ≤ (P : Int) := by omega
  have hPc : (P : Int) ≤ (c : Int) := by omega
  clear hd hN hm hP hPl
  go_enter Try.func30, Try.ntmps30
  go_upto_region 1 with (fail)
  go_quiet (fail)
  go_upto_region 3 with (fail)
  have hbq : Below w.heap.size w (w.drewN nq) := below_drewN (Below.refl w.heap.size w) nq
  obtain ⟨y0, y1, g0, g1⟩ := box2 (HD.out.below hbq).1
  have HSQ := Lib.hid (HSP.out.below hbq)
  have HBQ := Lib.hid hbq
  have hszq := hbq.size
  generalize w.drewN nq = wq at *
  have hdr : Below wq.heap.size wq wq.drew := (Below.refl _ _).drew
  have HS3 := Lib.hid (HSQ.out.below hdr)
  have hlt := Lib.hid (lt_of_some HD.out.1)
  clear x0 x1 f0 f1
  go_region_held3 (fun w' => w'.cell? ⟨h, 0, none⟩ = some (.slice ao N c) ∧ w'.cell? ⟨h, 1, none⟩ = some (.int .i64 s)) (first | (with_reducible exact ⟨y0, y1⟩) | (with_reducible exact ⟨z0, z1⟩) | go_keep) (first
    | (go_at_call 22; refine (cut_any _ P (D.take P) _ HS3.out HPL.out HBP.out (by omega)).mono ?_; rintro e w2 ⟨u2, vs2, rfl, _, _, hb2⟩; rw [HM.out]; have HB2 : Hid (Below w.heap.size w w2) := Lib.hid (HBQ.out.trans ((hdr.trans (hb2.mono (Nat.le_refl wq.heap.size))).mono hszq)); obtain ⟨z0, z1, e0, e1⟩ := box2 (HD.out.below HB2.out).1))
  have hx3 := row_setCell 0 (.slice ao m c) (HD.out.below HB2.out).1
  have hmc : (m : Int) ≤ (c : Int) := by omega
  have hm0 : (0 : Int) ≤ (m : Int) := by omega
  have HX3 := Lib.hid hx3
  clear y0 y1 g0 g1 hx3
  go_wp2_with fail
  refine (sync_at ao m c h _ _ HX3.out (by omega)).mono ?_
  rintro e w3 ⟨rfl, hq⟩
  have HQ := Lib.hid hq
  clear hq
  go_wp2_with fail
  go_ret
  rw [HQ.out]
  exact crash_done (by decide) HP.out (by omega) HN.out HD.out hB HB2.out
set_option maxHeartbeats 4000000 in
set_option maxRecDepth 100000 in
theorem rcrash_any (u : Value) (B h s : Nat) (D : List Int) (k : Int) (w : World) (hd : DK w 47 B h u D s) (hD : D.length ≤ 40000) (hB : B ≤ w.heap.size) (hk1 : -9223372036854775808 ≤ k) (hk2 : k < 9223372036854775808) :
    Calls Try.prog 31 #[.pointer (some ⟨h, 0, none⟩), .int .i64 k] w (CrPost w 47 B h u D s k) := by
  have HD := Lib.hid hd
  obtain ⟨x0, x1, f0, f1⟩ := box2 hd.1
  obtain ⟨N, hN⟩ : ∃ N, D.length = N := ⟨_, rfl⟩
  have HN := Lib.hid hN
  have hs : s ≤ N := by rw [← hN]; exact hd.2.2.2.2
  rw [hN] at hD
  obtain ⟨ao, c, rfl, hNc, hc⟩ : ∃ ao c, u = .slice ao N c ∧ N ≤ c ∧ c ≤ 9223372036854775807 := by
    obtain ⟨ao, c, h1, h2, h3, _⟩ := own_shape hd.2.1
    rw [hN] at h1 h2
    exact ⟨ao, c, h1, h2, h3⟩
  have HSU : Hid (Sl w 1 (.slice ao N c) N (D.map (Value.int .u8))) := Lib.hid (by rw [← hN]; have := own_sl hd.2.1; rw [← hN] at this; exact this)
  have hw1 : IntKind.i64.wrap ((N : Int) - (s : Int)) = (N : Int) - s := IntWalk.i64_in _ (by omega)
  by_cases hneg : k < 0
  · have HP : Hid (crS D s k = (1, D, s)) := Lib.hid (by unfold crS; rw [if_pos (Or.inl hneg)])
    clear hd hN
    go_enter Try.func31, Try.ntmps31
    go_upto_region 1 with (fail)
    go_quiet (fail)
    go_wp2
    go_ret
    exact crash_still HP.out HD.out hB
  by_cases hbig : (N : Int) - s < k
  · have HP : Hid (crS D s k = (1, D, s)) := Lib.hid (by unfold crS; rw [if_pos (Or.inr (by omega))])
    clear hd hN
    go_enter Try.func31, Try.ntmps31
    go_upto_region 1 with (fail)
    go_quiet (fail)
    go_wp2
    go_ret
    exact crash_still HP.out HD.out hB
  obtain ⟨k', rfl⟩ : ∃ k' : Nat, k = k' := ⟨k.toNat, by omega⟩
  obtain ⟨P, hP⟩ : ∃ P, s + k' = P := ⟨_, rfl⟩
  have hPN : P ≤ N := by omega
  have hPl : (D.take P).length = P := by rw [List.length_take]; omega
  obtain ⟨m, hm⟩ : ∃ m, (cutF ((D.take P).length + 1) (D.take P)).2 = m := ⟨_, rfl⟩
  have hmP : m ≤ P := by rw [← hm]; have := cut_le ((D.take P).length + 1) (D.take P); omega
  have HM := Lib.hid hm
  have HP : Hid (crS D s k' = (0, D.take m, m)) := Lib.hid (by
    unfold crS
    rw [if_neg (by omega)]
    simp only [Int.toNat_natCast, hP, hm])
  have HSP : Hid (Sl w 1 (.slice ao P c) P ((D.take P).map (Value.int .u8))) := Lib.hid (by
    have h1 : w.ownsRow B 5 1 (.slice ao N c) N (D.map (Value.int .u8)) := by have := hd.2.1; rw [hN] at this; exact this
    have h2 := own_sl (own_take h1 hPN)
    rw [← List.map_take] at h2
    exact h2)
  have HPL := Lib.hid hPl
  have HBP := Lib.hid (bytesL_take hd.2.2.2.1 P)
  have hw2 : IntKind.i64.wrap ((s : Int) + (k' : Int)) = (P : Int) := by rw [IntWalk.i64_in _ (by omega)]; omega
  have hP0 : (0 : Int) ≤ (P : Int) := by omega
  have hPc : (P : Int) ≤ (c : Int) := by omega
  clear hd hN hm hP hPl
  go_enter Try.func31, Try.ntmps31
  go_upto_region 1 with (fail)
  go_quiet (fail)
  go_upto_region 3 with (fail)
  have hbq : Below w.heap.size w (w.drewN nq) := below_drewN (Below.refl w.heap.size w) nq
  obtain ⟨y0, y1, g0, g1⟩ := box2 (HD.out.below hbq).1
  have HSQ := Lib.hid (HSP.out.below hbq)
  have HBQ := Lib.hid hbq
  have hszq := hbq.size
  generalize w.drewN nq = wq at *
  have hdr : Below wq.heap.size wq wq.drew := (Below.refl _ _).drew
  have HS3 := Lib.hid (HSQ.out.below hdr)
  have hlt := Lib.hid (lt_of_some HD.out.1)
  clear x0 x1 f0 f1
  go_region_held3 (fun w' => w'.cell? ⟨h, 0, none⟩ = some (.slice ao N c) ∧ w'.cell? ⟨h, 1, none⟩ = some (.int .i64 s)) (first | (with_reducible exact ⟨y0, y1⟩) | (with_reducible exact ⟨z0, z1⟩) | go_keep) (first
    | (go_at_call 23; refine (frames_any _ P (D.take P) _ HS3.out HPL.out HBP.out (by omega)).mono ?_; rintro e w2 ⟨u2, vs2, rfl, _, _, hb2⟩; rw [HM.out]; have HB2 : Hid (Below w.heap.size w w2) := Lib.hid (HBQ.out.trans ((hdr.trans (hb2.mono (Nat.le_refl wq.heap.size))).mono hszq)); obtain ⟨z0, z1, e0, e1⟩ := box2 (HD.out.below HB2.out).1))
  have hmc : (m : Int) ≤ (c : Int) := by omega
  have hm0 : (0 : Int) ≤ (m : Int) := by omega
  clear y0 y1 g0 g1
  go_wp2_with fail
  go_ret
  exact crash_done (by decide) HP.out (by omega) HN.out HD.out hB HB2.out
end Go.Proofs.Ytckpabminhkndaa.Disk
