/-
  The walk of slices.Insert at []int64.
-/
import Derived.Test.YtcljeedmiobepaaSort64
import Derived.Test.YtcljeedmiobepaaInsL
namespace Go.Proofs.Ytcljeedmiobepaa.Rk
open Go.RowKit Go.Gh
set_option linter.unusedVariables false
set_option maxHeartbeats 8000000 in
set_option maxRecDepth 100000 in
theorem insert_i64 (v : Value) (n i B ub : Nat) (xs c : List Value) (w : World) (hown : w.ownsRow B 2 1 v n xs) (hu : w.heap[ub]? = some (.cells c.toArray 2 (0, 0))) (hc : c.length = 1) (hne : v.ownBlock ≠ some ub) (hi : i ≤ n) (hn : n ≤ 1000000) (hB : B ≤ w.heap.size) (h1 : ∀ u ∈ xs, u.oneCell' = true) (h1c : ∀ u ∈ c, u.oneCell' = true) :
    Calls Try.prog 163 #[v, .int .i64 i, .slice (some ⟨ub, 0, none⟩) 1 1] w fun e w' => ∃ v', e = .returned v' ∧ w'.ownsRow B 2 1 v' (n + 1) (xs.take (i * 1) ++ (c ++ xs.drop (i * 1))) ∧ w.grownBy w' v.ownBlock ∧ (v'.ownBlock = v.ownBlock ∨ ∃ b, v'.ownBlock = some b ∧ w.heap.size ≤ b) := by
  obtain ⟨ao, cap, rfl, hnc, hcm, hxl⟩ := own_shape hown
  have hcu : ∀ j u, c[j]? = some u → w.cell? ⟨ub, j, none⟩ = some u := fun j u hj => (row_cell j u hu (by simpa using hj)).1
  have hsv : Sl w 1 (.slice (some ⟨ub, 0, none⟩) 1 1) 1 c := ⟨some ⟨ub, 0, none⟩, 1, rfl, Nat.le_refl _, by decide, fun h => by simp at h, by rw [hc], fun _ => ⟨ub, 0, rfl, fun j u hj => by rw [Nat.zero_add]; exact hcu j u hj⟩⟩
  by_cases hin : i = n
  · subst hin
    have hxe : xs.take (i * 1) ++ (c ++ xs.drop (i * 1)) = xs ++ c := by
      rw [List.take_of_length_le (by omega), List.drop_of_length_le (by omega), List.append_nil]
    rw [hxe]
    have tq : ((i : Int) == (i : Int)) = true := by simp
    rcases own_end hown with ⟨rfl, rfl, rfl, -, -⟩ | ⟨g, rfl, -, ⟨rfl, -⟩ | ⟨hne', -⟩⟩
    · go_enter Try.func163, Try.ntmps163
      go_wp2_with (at_builtin; refine app_liesK Sort64.elI64 rfl _ _ rfl hown rfl rfl hsv h1c (by decide) ?c1 ?c2 hB ?_)
      case c1 => omega
      case c2 => omega
      intro g' cap2 w' hown' hgr hat _
      go_wp2
      go_ret
      exact ⟨_, rfl, hown', hgr, hat.elim (fun h => Or.inl h.symm) (fun h => Or.inr ⟨g', rfl, by omega⟩)⟩
    · go_enter Try.func163, Try.ntmps163
      go_wp2_with (at_builtin; refine app_liesK Sort64.elI64 rfl _ _ rfl hown rfl rfl hsv h1c (by decide) ?c1 ?c2 hB ?_)
      case c1 => omega
      case c2 => omega
      intro g' cap2 w' hown' hgr hat _
      go_wp2
      go_ret
      exact ⟨_, rfl, hown', hgr, hat.elim (fun h => Or.inl h.symm) (fun h => Or.inr ⟨g', rfl, by omega⟩)⟩
    · have hce : (cap = i) = False := eq_false hne'
      go_enter Try.func163, Try.ntmps163
      go_wp2_with (at_builtin; refine app_liesK Sort64.elI64 rfl _ _ rfl hown rfl rfl hsv h1c (by decide) ?c1 ?c2 hB ?_)
      case c1 => omega
      case c2 => omega
      intro g' cap2 w' hown' hgr hat _
      go_wp2
      go_ret
      exact ⟨_, rfl, hown', hgr, hat.elim (fun h => Or.inl h.symm) (fun h => Or.inr ⟨g', rfl, by omega⟩)⟩
  have hlt : i < n := by omega
  obtain ⟨g, cap', e1, hg1, hg2, -, -, hcx⟩ := own_some hown (by omega)
  simp at e1
  obtain ⟨rfl, rfl⟩ := e1
  have hug : ub ≠ g := fun e => hne (by rw [e]; rfl)
  obtain ⟨i0, z0, hi0, hz0, hs0, hby0, hzs0⟩ := (Sort64.elI64).info
  have hsz : (Try.prog.info? 2).map (·.size) = some 1 := by rw [hi0, ← hs0]; rfl
  have hdl : (xs.drop (i * 1)).length = (n - i) * 1 := by rw [List.length_drop, hxl]; omega
  have hdm : ∀ j u, (xs.drop (i * 1))[j]? = some u → w.cell? ⟨g, i * 1 + j, none⟩ = some u := fun j u hj => hcx _ u (by rwa [List.getElem?_drop] at hj)
  have h1d : ∀ u ∈ xs.drop (i * 1), u.oneCell' = true := fun u hu => h1 u (List.mem_of_mem_drop hu)
  have hw1 : IntKind.i64.wrap ((i : Int) + 1) = (i : Int) + 1 := by rw [IntKind.wrap_i64]; omega
  have hb1 : (0 : Int) ≤ (i : Int) + 1 := by omega
  have htn : ((i : Int) + 1).toNat = i + 1 := by omega
  have hb3 : (i : Int) ≤ (n : Int) := by omega
  have hb4 : ((i : Int) == (n : Int)) = false := beq_eq_false_iff_ne.2 (by omega)
  have hb5 : (cap = i) = False := eq_false (by omega)
  have hm1 : Nat.min 1 (n + 1 - i) = 1 := by simp only [Nat.min_def]; split <;> omega
  by_cases hroom : n + 1 ≤ cap
  · obtain ⟨J, hJ, hown1⟩ := own_longer hown hroom
    have hov : ∀ lb cb, (callFunc 200 #[.slice (some ⟨ub, 0, none⟩) 1 1, .slice (some ⟨g, (i + 1) * 1, none⟩) lb cb]).run Try.prog w = .ok (.value (.bool false)) w := fun lb cb => by
      obtain ⟨cu, hcu'⟩ : ∃ cu, w.heap[g]? = some (.cells cu 2 (0, 0)) ∧ cu.size = cap * 1 := by
        rcases hown.2 with ⟨e, _⟩ | ⟨g', cp, cur, e, _, h2, _, _, h3, _⟩
        · simp at e
        · simp at e
          obtain ⟨rfl, rfl⟩ := e
          exact ⟨cur, h2, h3⟩
      rw [run_callFunc_extern Try.func200 (by kernel_rfl) (by kernel_rfl) (by kernel_rfl) (e := Extern.SlicesOverlaps.overlaps #[72, 72] #[4]) (by kernel_rfl),
        Lib.run_overlaps_apart w 72 4 2 (Sort64.elI64).und 1 (fun w => by simp [sizeOf, typeInfo, hi0, hs0]) ⟨ub, 0, none⟩ ⟨g, (i + 1) * 1, none⟩ 1 1 lb cb hug 2 2 c.toArray.size cu.size (by simp [World.shape?, hu]) (by simp [World.shape?, hcu'.1]) (by rw [hcu'.2]; omega) (by simp [World.frozen?, hu]) (by simp [World.frozen?, hu])]
      rfl
    have hm2 : Nat.min (n + 1 - i) (n - i) = n - i := by simp only [Nat.min_def]; split <;> omega
    have hownd : w.drew.ownsRow B 2 1 (.slice (some ⟨g, 0, none⟩) (n + 1) cap) (n + 1) (xs ++ J) := own_below hown1 (Below.refl _ _).drew
    have hcp1 : ∀ ty dc sc, _ := fun (ty : TypeId) (dc sc : Nat) => copy_own (P := Try.prog) (w := w.drew) (dT := 72) (sT := 72) (ty := ty) (o := (i + 1) * 1) (dLen := n - i) (dCap := dc) (sLen := n + 1 - i) (sCap := sc) (a := ⟨g, i * 1, none⟩) (Sort64.elI64).und hsz hownd hm2 hdl (by omega) (fun j u hj => by rw [addr_add]; exact hdm j u hj) h1d
    have hW1o := (hcp1 0 0 0).2
    have hgr1 : w.grownBy (setCells w.drew g ((i + 1) * 1) (xs.drop (i * 1))) (some g) := grown_cells (Or.inr rfl) _ _ _ ⟨rfl, rfl, rfl, Nat.le_refl _, fun _ _ _ => rfl⟩
    have hub1 : (setCells w.drew g ((i + 1) * 1) (xs.drop (i * 1))).heap[ub]? = some (.cells c.toArray 2 (0, 0)) := block_stores_other hug _ _ _ hu
    obtain ⟨W1, hW1⟩ : ∃ W1, W1 = setCells w.drew g ((i + 1) * 1) (xs.drop (i * 1)) := ⟨_, rfl⟩
    rw [← hW1] at hcp1 hW1o hgr1 hub1
    have hcp2 : ∀ ty dc, _ := fun (ty : TypeId) (dc : Nat) => copy_own (P := Try.prog) (w := W1) (dT := 72) (sT := 72) (ty := ty) (cs := c) (o := i * 1) (dLen := n + 1 - i) (dCap := dc) (sLen := 1) (sCap := 1) (a := ⟨ub, 0, none⟩) (Sort64.elI64).und hsz hW1o hm1 (by rw [hc]) (by omega) (fun j u hj => by rw [addr_add, Nat.zero_add]; exact (row_cell j u hub1 (by simpa using hj)).1) h1c
    have hfin := (hcp2 0 0).2
    rw [ins_shift hxl hi hc hJ] at hfin
    have hgr2 : w.grownBy (setCells W1 g (i * 1) c) (some g) := grown_cells (Or.inr rfl) _ _ _ hgr1
    obtain ⟨W2, hW2⟩ : ∃ W2, W2 = setCells W1 g (i * 1) c := ⟨_, rfl⟩
    rw [← hW2] at hcp2 hfin hgr2
    have HF := Lib.hid (And.intro hfin hgr2)
    have hb6 : (cap = i + 1) = False := eq_false (by omega)
    have hb7 : decide ((cap : Int) < (n : Int) + 1) = false := decide_eq_false (by omega)
    have hb8 : (i : Int) ≤ (n : Int) + 1 := by omega
    have hb9 : (i : Int) + 1 ≤ (n : Int) + 1 := by omega
    have htn2 : ((n : Int) + 1).toNat = n + 1 := by omega
    simp only [Nat.mul_one] at hcp1 hcp2 hov
    clear hown hown1 hownd hW1o hgr1 hub1 hgr2 hfin hW1 hW2 hcu hsv hu hdm hcx
    go_enter Try.func163, Try.ntmps163
    go_wp2_with (simp only [hov])
    go_region_law (refine step_copy_run' rfl _ _ 72 72 rfl _ _ (by simp [Act.eval, Act.put]) (by simp [Act.eval, Act.put]) (hcp1 _ _ _).1 ?_)
    go_wp2_with (at_builtin; refine wpList_copy_run' _ rfl _ _ 72 72 rfl _ _ rfl rfl (hcp2 _ _).1 ?_)
    go_ret
    exact ⟨_, rfl, HF.out.1, HF.out.2, Or.inl rfl⟩
  · obtain rfl : n = cap := by omega
    have hxt : (xs.take (i * 1)).length = i * 1 := by rw [List.length_take]; omega
    have hold : (Builtin.firstCells i0.size i (.slice (some ⟨g, 0, none⟩) i n)).run Try.prog w.drew = .ok (xs.take (i * 1)).toArray w.drew := by
      rw [hs0]
      refine run_firstCells_some w.drew 1 i ⟨g, 0, none⟩ i n (xs.take (i * 1)) hxt (fun j u hj => ?_)
      rw [addr_add, Nat.zero_add]
      rw [List.getElem?_take] at hj
      split at hj
      · exact hcx j u hj
      · simp at hj
    have hik : i + (n + 1 - i) = n + 1 := by omega
    have hkk : (n : Int) + 1 - (i : Int) = ((n + 1 - i : Nat) : Int) := by omega
    have hrz : ∀ ty, (Builtin.append_ #[72, 3] ty #[.slice (some ⟨g, 0, none⟩) i n, .int .i64 ((n : Int) + 1 - (i : Int))]).run Try.prog w =
        .ok (.slice (some ⟨w.heap.size, 0, none⟩) (n + 1) (grownCap w (n + 1) n 2)) (w.drew.alloc (.cells ((xs.take (i * 1)).toArray ++ Builtin.zeroCells z0.cells (n + 1 - i) ++ Builtin.zeroCells z0.cells (grownCap w (n + 1) n 2 - (n + 1))) 2)) := fun ty => by
      have h := Lib.run_append_grow_zeros w 72 3 ty 2 i0 z0 .i64 .i64 (Sort64.elI64).und Try.underlying3 hi0 hz0 (some ⟨g, 0, none⟩) i n (xs.take (i * 1)) hold (n + 1 - i) (by omega) (by omega) (by omega) (by omega) (by rw [hby0]; omega) (by rw [hby0, hik]; exact growslice_fits (by omega) (by omega))
      rw [hik] at h
      rw [hkk]
      exact h
    obtain ⟨hrow, hZl⟩ := zeros_row (w := w) (e := 2) (k := 1) (n := n + 1) (i := i) (B := B) (old := n) (z := z0) (xs := xs.take (i * 1)) (by rw [hzs0]) hxt (by omega) (by omega) hB (by unfold maxLen; omega)
    have hGn := grownCap_ge w (n + 1) n 2
    have hG63 := grownCap_le_maxLen w (n + 1) n 2 (by unfold maxLen; omega)
    obtain ⟨Z, hZ⟩ : ∃ Z, Z = (Builtin.zeroCells z0.cells (n + 1 - i)).toList := ⟨_, rfl⟩
    obtain ⟨G, hG⟩ : ∃ G, G = grownCap w (n + 1) n 2 := ⟨_, rfl⟩
    rw [← hZ] at hrow hZl
    rw [← hG] at hrow hrz hGn hG63
    unfold maxLen at hG63
    obtain ⟨N, hN⟩ : ∃ N, N = w.heap.size := ⟨_, rfl⟩
    have hNw : w.heap.size ≤ N := by omega
    have hgl : g < N := by omega
    have hul : ub < N := by rw [hN]; exact (Array.getElem?_eq_some_iff.1 hu).1
    obtain ⟨W1, hW1⟩ : ∃ W1, W1 = w.drew.alloc (.cells ((xs.take (i * 1)).toArray ++ Builtin.zeroCells z0.cells (n + 1 - i) ++ Builtin.zeroCells z0.cells (G - (n + 1))) 2) := ⟨_, rfl⟩
    have hgr0 : w.grownBy W1 (some g) := by rw [hW1]; exact ⟨rfl, rfl, rfl, by simp, fun k hk _ => heap_alloc_old w.drew _ hk⟩
    rw [← hW1] at hrow hrz
    rw [← hN] at hrow hrz
    have hold1 : ∀ b j u, b < N → w.cell? ⟨b, j, none⟩ = some u → W1.cell? ⟨b, j, none⟩ = some u := fun b j u hb h => by
      have hbl : W1.heap[b]? = w.heap[b]? := by rw [hW1]; exact heap_alloc_old w.drew _ (show b < w.heap.size by rw [← hN]; exact hb)
      simpa [World.cell?, hbl] using h
    have hnN : w.heap.size ≤ N ∨ some g = some N := Or.inl (by omega)
    have hcp1 : ∀ ty dc, _ := fun (ty : TypeId) (dc : Nat) => copy_own (P := Try.prog) (w := W1) (dT := 72) (sT := 72) (ty := ty) (cs := c) (o := i * 1) (dLen := n + 1 - i) (dCap := dc) (sLen := 1) (sCap := 1) (a := ⟨ub, 0, none⟩) (Sort64.elI64).und hsz hrow hm1 (by rw [hc]) (by omega) (fun j u hj => by rw [addr_add, Nat.zero_add]; exact hold1 _ _ _ hul (hcu j u hj)) h1c
    have hW2o := (hcp1 0 0).2
    have hgr1 : w.grownBy (setCells W1 N (i * 1) c) (some g) := grown_cells hnN _ _ _ hgr0
    have hold2 : ∀ j u, w.cell? ⟨g, j, none⟩ = some u → (setCells W1 N (i * 1) c).cell? ⟨g, j, none⟩ = some u := fun j u h => by
      have h2 := hold1 g j u hgl h
      rw [← setCells_eq]
      rw [World.cell?_setCells_out _ _ _ _ _ (fun h _ => by dsimp only at h; omega)]
      exact h2
    obtain ⟨W2, hW2⟩ : ∃ W2, W2 = setCells W1 N (i * 1) c := ⟨_, rfl⟩
    rw [← hW2] at hcp1 hW2o hgr1 hold2
    have hW2d : W2.drew.ownsRow B 2 1 _ (n + 1) _ := own_below hW2o (Below.refl _ _).drew
    have hm3 : Nat.min (n - i) (n - i) = n - i := by simp
    have hcp2 : ∀ ty dc sc, _ := fun (ty : TypeId) (dc sc : Nat) => copy_own (P := Try.prog) (w := W2.drew) (dT := 72) (sT := 72) (ty := ty) (o := (i + 1) * 1) (dLen := n - i) (dCap := dc) (sLen := n - i) (sCap := sc) (a := ⟨g, i * 1, none⟩) (Sort64.elI64).und hsz hW2d hm3 hdl (by omega) (fun j u hj => by rw [addr_add]; exact hold2 _ _ (hdm j u hj)) h1d
    have hfin := (hcp2 0 0 0).2
    rw [ins_grow hxl hi hc hZl] at hfin
    have hgr2 : w.grownBy (setCells W2.drew N ((i + 1) * 1) (xs.drop (i * 1))) (some g) := grown_cells hnN _ _ _ ⟨hgr1.os, hgr1.tape, hgr1.output, hgr1.size, hgr1.block⟩
    obtain ⟨W3, hW3⟩ : ∃ W3, W3 = setCells W2.drew N ((i + 1) * 1) (xs.drop (i * 1)) := ⟨_, rfl⟩
    rw [← hW3] at hcp2 hfin hgr2
    have HF := Lib.hid (And.intro hfin hgr2)
    have hg5 : (G = i) = False := eq_false (by omega)
    have hg6 : (G = i + 1) = False := eq_false (by omega)
    have hb7 : decide ((n : Int) < (n : Int) + 1) = true := decide_eq_true (by omega)
    have hb8 : (i : Int) ≤ (n : Int) + 1 := by omega
    have hb9 : (i : Int) + 1 ≤ (n : Int) + 1 := by omega
    simp only [Nat.mul_one] at hcp1 hcp2
    clear hown hrow hW2o hW2d hgr0 hgr1 hgr2 hfin hW1 hW2 hW3 hcu hsv hu hdm hcx hold hold1 hold2 hkk hik hG hN hnN
    go_enter Try.func163, Try.ntmps163
    go_wp2_with (first
      | (at_builtin; refine Lib.wpList_append_run _ rfl _ _ _ _ rfl _ _ rfl rfl _ _ (hrz _) ?_)
      | (at_builtin; refine wpList_copy_run' _ rfl _ _ 72 72 rfl _ _ rfl rfl (hcp1 _ _).1 ?_))
    go_region_law (refine step_copy_run' rfl _ _ 72 72 rfl _ _ (by simp [Act.eval, Act.put]) (by simp [Act.eval, Act.put]) (hcp2 _ _ _).1 ?_)
    go_wp2
    go_ret
    exact ⟨_, rfl, HF.out.1, HF.out.2, Or.inr ⟨N, rfl, hNw⟩⟩
end Go.Proofs.Ytcljeedmiobepaa.Rk
