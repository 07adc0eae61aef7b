/-
  The walk of claim.own.
-/
import Derived.Test.YtcljeedmiobepaaNewer
import Derived.Test.YtcljeedmiobepaaBoxes
namespace Go.Proofs.Ytcljeedmiobepaa.Nod
open Go.RowKit Go.Gh
set_option linter.unusedVariables false
set_option maxHeartbeats 4000000 in
set_option maxRecDepth 100000 in
theorem own_any (v : Value) (x : Cl) (w : World) (hv : ClV w v x) (hn : x.tk.length ≤ 1000000) : Calls Try.prog 102 #[v] w fun e w' =>
    ∃ t', e = .returned (.agg #[.int .i64 x.ver, .int .i64 x.st, .string x.nm, t']) ∧ w'.ownsRow w.heap.size 99 1 t' x.tk.length (x.tk.map (Value.int .u64)) ∧ Below w.heap.size w w' := by
  obtain ⟨t, rfl, hta⟩ := hv
  obtain ⟨av, sa, an, atk⟩ := x
  dsimp only at *
  obtain ⟨ao, c, rfl, hnc, hc, -⟩ := hta.1.shape
  have HTA := Lib.hid hta
  clear hta
  go_enter Try.func102, Try.ntmps102
  go_wp2_with fail
  obtain ⟨wA, hwA⟩ : ∃ wA, wA = (w.alloc (Obj.cells #[.int .i64 av, .int .i64 sa, .string an, .slice ao atk.length c] 27)).alloc (Obj.cells #[.int .i64 0, .int .i64 0, .string ⟨#[]⟩, .slice none 0 0] 27) := ⟨_, rfl⟩
  have hb1 : wA.heap[w.heap.size]? = some (.cells #[.int .i64 av, .int .i64 sa, .string an, .slice ao atk.length c] 27 (0, 0)) := by rw [hwA]; exact two_first w _ _
  have hb2 : wA.heap[w.heap.size + 1]? = some (.cells #[.int .i64 0, .int .i64 0, .string ⟨#[]⟩, .slice none 0 0] 27 (0, 0)) := by rw [hwA]; exact two_second w _ _
  have hBA : Below w.heap.size w wA := by rw [hwA]; exact ((Below.refl _ _).alloc (Nat.le_refl _) _).alloc (by simp) _
  have hsA : wA.heap.size = w.heap.size + 1 + 1 := by rw [hwA]; simp
  rw [← hwA]
  have HBA := Lib.hid hBA
  have HSA := Lib.hid hsA
  have HTA1 : Hid (Toks wA (.slice ao atk.length c) atk) := Lib.hid (HTA.out.below hBA)
  have HB1 := Lib.hid hb1
  have HB2 := Lib.hid hb2
  clear hwA hBA hsA hb1 hb2 HTA
  refine (clone_u64 _ _ atk _ HTA1.out.1 hn).mono ?_
  rintro e w1 ⟨t', rfl, hown, hb⟩
  obtain ⟨uo, uc, rfl, -, -, -⟩ := own_shape hown
  obtain ⟨t', ht'⟩ : ∃ t', t' = Value.slice uo atk.length uc := ⟨_, rfl⟩
  rw [← ht'] at hown
  have hl1 : w.heap.size < wA.heap.size := by have := HSA.out; omega
  have hl2 : w.heap.size + 1 < wA.heap.size := by have := HSA.out; omega
  have h1 := (hb.block _ hl1).trans HB1.out
  have h2 := (hb.block _ hl2).trans HB2.out
  have hne : ∀ k, k < wA.heap.size → t'.ownBlock ≠ some k := by
    intro k hk he
    have := (hown.lt k he).1
    omega
  have HOWN : Hid ((setCells (w1.setCell ⟨w.heap.size, 3, none⟩ t') (w.heap.size + 1) 0 [.int .i64 av, .int .i64 sa, .string an, t']).ownsRow w.heap.size 99 1 t' atk.length (atk.map (Value.int .u64))) := Lib.hid (own_mono (own_stores_other (hne _ hl2) _ _ 0 (ownsRow_setCell_other hown (a := ⟨w.heap.size, 3, none⟩) (hne _ hl1) t')) (by omega))
  have HBW : Hid (Below w.heap.size w (setCells (w1.setCell ⟨w.heap.size, 3, none⟩ t') (w.heap.size + 1) 0 [.int .i64 av, .int .i64 sa, .string an, t'])) := Lib.hid (below_stores (by omega) _ _ 0 ((HBA.out.trans (hb.mono (by omega))).setCell (p := ⟨w.heap.size, 3, none⟩) (Nat.le_refl _) t'))
  have h3 := row_setCell 3 t' h1
  have h4 : (w1.setCell ⟨w.heap.size, 3, none⟩ t').heap[w.heap.size + 1]? = _ := row_setCell_other t' h2 (by omega)
  have h5 : (setCells (w1.setCell ⟨w.heap.size, 3, none⟩ t') (w.heap.size + 1) 0 [.int .i64 av, .int .i64 sa, .string an, t']).heap[w.heap.size + 1]? = some (.cells #[.int .i64 av, .int .i64 sa, .string an, t'] 27 (0, 0)) := box_over (cs := [_, _, _, _]) h4 rfl
  obtain ⟨⟨p0, p1, p2, p3⟩, ⟨f0, f1, f2, f3⟩⟩ := bx4 h1
  obtain ⟨⟨q0, q1, q2, q3⟩, ⟨g0, g1, g2, g3⟩⟩ := bx4 h3
  obtain ⟨⟨r0, r1, r2, r3⟩, ⟨k0, k1, k2, k3⟩⟩ := bx4 h4
  obtain ⟨⟨s0, s1, s2, s3⟩, -⟩ := bx4 h5
  have H5 := Lib.hid (And.intro s0 (And.intro s1 (And.intro s2 s3)))
  subst ht'
  clear hown hb hne h1 h2 h3 h4 h5 s0 s1 s2 s3
  go_wp2_with fail
  obtain ⟨s0, s1, s2, s3⟩ := H5.out
  simp only [setCells, Nat.zero_add, Nat.reduceAdd] at s0 s1 s2 s3
  refine bodyPost_ret (v := .agg #[.int .i64 av, .int .i64 sa, .string an, .slice uo atk.length uc]) (by simp [results, Try.results102, go_sem, s0, s1, s2, s3]) rfl ?_
  exact ⟨_, rfl, HOWN.out, HBW.out⟩
end Go.Proofs.Ytcljeedmiobepaa.Nod
