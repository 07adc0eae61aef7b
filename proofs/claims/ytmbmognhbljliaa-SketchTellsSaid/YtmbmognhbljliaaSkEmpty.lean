/-
  The walk of sketch.Empty.
-/
import Derived.Test.YtmbmognhbljliaaSk4
import Derived.Laws.OwnMore
import Derived.Deep.OwnRows
namespace Go.Proofs.Ytmbmognhbljliaa.Sk
open Go.RowKit Go.Gh
set_option linter.unusedVariables false
def zerosV (L : Nat) : List Value := (List.replicate L (0 : Int)).map (Value.int .i64)
theorem zeros_made (L : Nat) : madeCells #[Value.int .i64 0] L = (zerosV L).toArray := by
  apply Array.ext'
  rw [toList_madeCells_one]
  unfold zerosV
  simp
theorem make_run (L : Nat) (hL : L ≤ 1600) : ∀ W', (Instr.makeSlice 64 (.int .i64 (L : Int)) (.int .i64 (L : Int))).run Try.prog W' = .ok (.slice (some ⟨W'.heap.size, 0, none⟩) L L) (W'.alloc (.cells (zerosV L).toArray 2)) := fun W' => by
  rw [← zeros_made]
  exact run_make_row' 64 2 (.int .i64 0) 8 Try.underlying64 infoI64 rfl .i64 .i64 L (by omega) (by omega) W'
theorem zeros_sl (W : World) (L : Nat) (hL : L ≤ 1600) : Sl (W.alloc (.cells (zerosV L).toArray 2)) 1 (.slice (some ⟨W.heap.size, 0, none⟩) L L) L ((List.replicate L (0 : Int)).map (Value.int .i64)) :=
  sl_new W (zerosV L) (by unfold zerosV; simp) (by omega)
theorem mk_list {ops : Array Oper} {rest : List Oper} {o : Oper} {a : Act} {Q : Exit → Act → World → Prop} {W : World}
    (hg : o.guard = none) (l c : Operand) (hop : o.op = Op.makeSlice 64 l c) (LI : Int) (L : Nat) {kl kc : IntKind} (hl : a.eval l = .int kl LI) (hc : a.eval c = .int kc LI) (hL : LI = (L : Int)) (hT : True = True) (hL2 : L ≤ 1600)
    (hK : ∀ w', w'.ownsRow W.heap.size 2 1 (.slice (some ⟨W.heap.size, 0, none⟩) L L) L (zerosV L) → W.grownBy w' none → wpList Try.prog ops Q rest (a.put o.dst (.slice (some ⟨W.heap.size, 0, none⟩) L L)) w') :
    wpList Try.prog ops Q (o :: rest) a W := by
  obtain ⟨i, z, h2, h3, h4, h5, h6⟩ := elI64.info
  obtain ⟨i', hi', hzz⟩ := Option.map_eq_some_iff.1 infoI64
  simp only [Prod.mk.injEq] at hzz
  have hii : i' = i := by rw [hi'] at h2; exact Option.some.inj h2
  subst hii
  refine wpList_make_full W hg l c 64 hop W.heap.size 2 i' (.int .i64 0) 1 elI64.und h2 hzz.1 h4 kl kc LI LI L hl hc hL hL (by rw [h5]; omega) (by unfold maxLen; omega) (Nat.le_refl _) ?_
  intro w' hrow hgr
  refine hK w' ?_ hgr
  have : (madeCells (Value.int .i64 0).cells (L * 1)).toList = zerosV L := by
    rw [Nat.mul_one]
    show (madeCells #[Value.int .i64 0] L).toList = _
    rw [zeros_made]
  rwa [this] at hrow
def empR (D W : Int) : Sk4 × Int := if sizeOk D W then ((D, W, List.replicate (D.toNat * W.toNat) 0, 0), 0) else (zeroSk, 1)
theorem emp_bad {D W : Int} (h : ¬ sizeOk D W) : empR D W = (zeroSk, 1) := if_neg h
theorem emp_ok {d wd L : Nat} (h : sizeOk d wd) (hL : d * wd = L) : empR d wd = (((d : Int), (wd : Int), List.replicate L 0, 0), 0) := by
  unfold empR
  rw [if_pos h, Int.toNat_natCast, Int.toNat_natCast, hL]
  rfl
set_option maxHeartbeats 4000000 in
set_option maxRecDepth 100000 in
theorem empty_any (D W : Int) (w : World) (hD : -9223372036854775808 ≤ D ∧ D < 9223372036854775808) (hW : -9223372036854775808 ≤ W ∧ W < 9223372036854775808) :
    Calls Try.prog 58 #[.int .i64 D, .int .i64 W] w (MgPost w (empR D W)) := by
  by_cases hs : sizeOk D W
  case neg =>
    have HF : Hid (empR D W = (zeroSk, 1)) := Lib.hid (emp_bad hs)
    have hd : decide (sizeOk D W) = false := decide_eq_false hs
    clear hs
    go_enter Try.func58, Try.ntmps58
    go_wp2_with fail
    refine (size_any D W _).mono ?_
    rw [hd]
    rintro e w1 ⟨rfl, rfl⟩
    have z2 := heap_alloc_new w (Obj.cells #[.int .i64 0, .int .i64 0, .slice none 0 0, .int .i64 0] 66)
    obtain ⟨⟨r0, r1, r2, r3⟩, ⟨f0, f1, f2, f3⟩⟩ := box4 z2
    have z3 := box4_store (.int .i64 0) (.int .i64 0) (.slice none 0 0) (.int .i64 0) z2
    obtain ⟨⟨s0, s1, s2, s3⟩, -⟩ := box4 z3
    have hB3 := box4_below (.int .i64 0) (.int .i64 0) (.slice none 0 0) (.int .i64 0) (Nat.le_refl w.heap.size) ((Below.refl _ w).alloc (Nat.le_refl _) (Obj.cells #[.int .i64 0, .int .i64 0, .slice none 0 0, .int .i64 0] 66))
    go_wp2_with fail
    refine bodyPost_ret (v := .tuple #[.agg #[.int .i64 0, .int .i64 0, .slice none 0 0, .int .i64 0], .int .i64 1]) (by simp [results, Try.results58, go_sem, s0, s1, s2, s3]) rfl ?_
    exact mg_zero HF.out ((Below.refl _ w).alloc (Nat.le_refl _) _)
  case pos =>
    have hs0 := hs
    obtain ⟨h1, h2, h3, h4⟩ := hs
    obtain ⟨d, rfl⟩ : ∃ d : Nat, D = d := ⟨D.toNat, by omega⟩
    obtain ⟨wd, rfl⟩ : ∃ d : Nat, W = d := ⟨W.toNat, by omega⟩
    obtain ⟨L, hL⟩ : ∃ L, d * wd = L := ⟨_, rfl⟩
    have hLi : (d : Int) * (wd : Int) = (L : Int) := by rw [← hL]; exact (Int.natCast_mul d wd).symm
    have hL2 : L ≤ 1600 := by rw [← hL]; exact Nat.mul_le_mul (show d ≤ 8 by omega) (show wd ≤ 200 by omega)
    have HF : Hid (empR d wd = (((d : Int), (wd : Int), List.replicate L 0, 0), 0)) := Lib.hid (emp_ok hs0 hL)
    have hd : decide (sizeOk d wd) = true := decide_eq_true hs0
    clear hs0 hL h1 h2 h3 h4
    go_enter Try.func58, Try.ntmps58
    go_wp2_with fail
    refine (size_any d wd _).mono ?_
    rw [hd]
    rintro e w1 ⟨rfl, rfl⟩
    obtain ⟨wA, hwA⟩ : ∃ wA, wA = w.alloc (Obj.cells #[.int .i64 0, .int .i64 0, .slice none 0 0, .int .i64 0] 66) := ⟨_, rfl⟩
    rw [← hwA]
    have hAb : Below w.heap.size w wA := by rw [hwA]; exact (Below.refl _ _).alloc (Nat.le_refl _) _
    have hAs : w.heap.size < wA.heap.size := by rw [hwA]; simp
    have hA0 : wA.heap[w.heap.size]? = some (.cells #[.int .i64 0, .int .i64 0, .slice none 0 0, .int .i64 0] 66 (0, 0)) := by rw [hwA]; exact heap_alloc_new w _
    clear hwA
    obtain ⟨⟨q0, q1, q2, q3⟩, ⟨e0, e1, e2, e3⟩⟩ := box4 hA0
    go_wp2_with (at_make; refine mk_list rfl _ _ rfl L L rfl rfl rfl rfl hL2 ?_)
    intro w2 hrow hg2
    have hB2 := below_of_grown hg2 (Nat.le_refl wA.heap.size) (fun k h => by simp at h)
    have z2 := (hB2.block w.heap.size (by omega)).trans hA0
    clear q0 q1 q2 q3 e0 e1 e2 e3
    obtain ⟨⟨r0, r1, r2, r3⟩, ⟨f0, f1, f2, f3⟩⟩ := box4 z2
    have z3 := box4_store (.int .i64 d) (.int .i64 wd) (.slice (some ⟨wA.heap.size, 0, none⟩) L L) (.int .i64 0) z2
    obtain ⟨⟨s0, s1, s2, s3⟩, -⟩ := box4 z3
    have hB3 := box4_below (.int .i64 d) (.int .i64 wd) (.slice (some ⟨wA.heap.size, 0, none⟩) L L) (.int .i64 0) (Nat.le_refl w.heap.size) (hAb.trans (hB2.mono hAb.size))
    have hne : (Value.slice (some ⟨wA.heap.size, 0, none⟩) L L).ownBlock ≠ some w.heap.size := by
      intro h
      have := (hrow.lt _ h).1
      omega
    have hrow2 := ownsRow_setCell_other (ownsRow_setCell_other (ownsRow_setCell_other (ownsRow_setCell_other hrow (a := ⟨w.heap.size, 0, none⟩) hne (.int .i64 d)) (a := ⟨w.heap.size, 1, none⟩) hne (.int .i64 wd)) (a := ⟨w.heap.size, 2, none⟩) hne (.slice (some ⟨wA.heap.size, 0, none⟩) L L)) (a := ⟨w.heap.size, 3, none⟩) hne (.int .i64 0)
    have HROW := Lib.hid (own_sl hrow2)
    clear hrow hrow2 z2 z3 hne
    go_wp2_with fail
    refine bodyPost_ret (v := .tuple #[.agg #[.int .i64 d, .int .i64 wd, .slice (some ⟨wA.heap.size, 0, none⟩) L L, .int .i64 0], .int .i64 0]) (by simp [results, Try.results58, go_sem, s0, s1, s2, s3]) rfl ?_
    show MgPost _ _ _ _
    rw [HF.out]
    exact ⟨_, rfl, ⟨_, L, rfl, HROW.out, by simp, by intro z hz; rw [(List.mem_replicate.1 hz).2]; decide, by omega, hD, hW, by simp⟩, hB3⟩
end Go.Proofs.Ytmbmognhbljliaa.Sk
