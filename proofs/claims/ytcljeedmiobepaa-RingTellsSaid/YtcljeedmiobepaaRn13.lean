/-
  The walk of slices.Insert at []api.Node.
-/
import Derived.Test.YtcljeedmiobepaaRn4
import Derived.Test.YtcljeedmiobepaaRn5
import Derived.Test.YtcljeedmiobepaaRn9
import Derived.Test.YtcljeedmiobepaaRn10
import Derived.Test.YtcljeedmiobepaaRn12
import Derived.Deep.QuietTactic
import Derived.BigQuiet
namespace Go.Proofs.Ytcljeedmiobepaa.Nod
open Go.RowKit Go.Gh
set_option linter.unusedVariables false
set_option maxHeartbeats 8000000 in
set_option maxRecDepth 100000 in
theorem insert_nd (v : Value) (n i B ub : Nat) (xs c : List Value) (w : World) (hown : w.ownsRow B 25 2 v n xs) (hu : w.heap[ub]? = some (.cells c.toArray 25 (0, 0))) (hc : c.length = 2) (hne : v.ownBlock ≠ some ub) (hi : i ≤ n) (hn : n ≤ 1000000) (hB : B ≤ w.heap.size) (h1 : ∀ u ∈ xs, u.oneCell' = true) (h1c : ∀ u ∈ c, u.oneCell' = true) :
    Calls Try.prog 131 #[v, .int .i64 i, .slice (some ⟨ub, 0, none⟩) 1 1] w fun e w' => ∃ v', e = .returned v' ∧ w'.ownsRow B 25 2 v' (n + 1) (xs.take (i * 2) ++ (c ++ xs.drop (i * 2))) ∧ w.grownBy w' v.ownBlock := by
  obtain ⟨ao, cap, rfl, hnc, hcm, hxl⟩ := own_shape hown
  have hcu : ∀ j u, c[j]? = some u → w.cell? ⟨ub, j, none⟩ = some u := fun j u hj => (row_cell j u hu (by simpa using hj)).1
  have hsv : Sl w 2 (.slice (some ⟨ub, 0, none⟩) 1 1) 1 c := ⟨some ⟨ub, 0, none⟩, 1, rfl, Nat.le_refl _, by decide, fun h => by simp at h, by rw [hc], fun _ => ⟨ub, 0, rfl, fun j u hj => by rw [Nat.zero_add]; exact hcu j u hj⟩⟩
  by_cases hin : i = n
  · subst hin
    have hxe : xs.take (i * 2) ++ (c ++ xs.drop (i * 2)) = xs ++ c := by
      rw [List.take_of_length_le (by omega), List.drop_of_length_le (by omega), List.append_nil]
    rw [hxe]
    have tq : ((i : Int) == (i : Int)) = true := by simp
    rcases own_end hown with ⟨rfl, rfl, rfl, -, -⟩ | ⟨g, rfl, -, ⟨rfl, -⟩ | ⟨hne', -⟩⟩
    · go_enter Try.func131, Try.ntmps131
      go_wp2_with (at_builtin; refine appendS elNd rfl _ _ rfl hown (Below.refl B w) hB rfl rfl hsv h1c ?c1 ?c2 ?_)
      case c1 => omega
      case c2 => omega
      intro v' w' hown' _ hgr
      go_wp2
      go_ret
      exact ⟨v', rfl, hown', hgr⟩
    · go_enter Try.func131, Try.ntmps131
      go_wp2_with (at_builtin; refine appendS elNd rfl _ _ rfl hown (Below.refl B w) hB rfl rfl hsv h1c ?c1 ?c2 ?_)
      case c1 => omega
      case c2 => omega
      intro v' w' hown' _ hgr
      go_wp2
      go_ret
      exact ⟨v', rfl, hown', hgr⟩
    · have hce : (cap = i) = False := eq_false hne'
      go_enter Try.func131, Try.ntmps131
      go_wp2_with (at_builtin; refine appendS elNd rfl _ _ rfl hown (Below.refl B w) hB rfl rfl hsv h1c ?c1 ?c2 ?_)
      case c1 => omega
      case c2 => omega
      intro v' w' hown' _ hgr
      go_wp2
      go_ret
      exact ⟨v', rfl, hown', hgr⟩
  have hlt : i < n := by omega
  obtain ⟨g, cap', e1, hg1, hg2, -, -, hcx⟩ := own_some hown (by omega)
  simp at e1
  obtain ⟨rfl, rfl⟩ := e1
  have hug : ub ≠ g := fun e => hne (by rw [e]; rfl)
  obtain ⟨i0, z0, hi0, hz0, hs0, hby0, hzs0⟩ := (elNd).info
  have hsz : (Try.prog.info? 25).map (·.size) = some 2 := by rw [hi0, ← hs0]; rfl
  have hdl : (xs.drop (i * 2)).length = (n - i) * 2 := by rw [List.length_drop, hxl]; omega
  have hdm : ∀ j u, (xs.drop (i * 2))[j]? = some u → w.cell? ⟨g, i * 2 + j, none⟩ = some u := fun j u hj => hcx _ u (by rwa [List.getElem?_drop] at hj)
  have h1d : ∀ u ∈ xs.drop (i * 2), u.oneCell' = true := fun u hu => h1 u (List.mem_of_mem_drop hu)
  have hw1 : IntKind.i64.wrap ((i : Int) + 1) = (i : Int) + 1 := by rw [IntKind.wrap_i64]; omega
  have hb1 : (0 : Int) ≤ (i : Int) + 1 := by omega
  have htn : ((i : Int) + 1).toNat = i + 1 := by omega
  have hb3 : (i : Int) ≤ (n : Int) := by omega
  have hb4 : ((i : Int) == (n : Int)) = false := beq_eq_false_iff_ne.2 (by omega)
  have hb5 : (cap = i) = False := eq_false (by omega)
  have hm1 : Nat.min 1 (n + 1 - i) = 1 := by simp only [Nat.min_def]; split <;> omega
  by_cases hroom : n + 1 ≤ cap
  · obtain ⟨J, hJ, hown1⟩ := own_longer hown hroom
    have hov : ∀ lb cb, (callFunc 175 #[.slice (some ⟨ub, 0, none⟩) 1 1, .slice (some ⟨g, (i + 1) * 2, none⟩) lb cb]).run Try.prog w = .ok (.value (.bool false)) w := fun lb cb => by
      obtain ⟨cu, hcu'⟩ : ∃ cu, w.heap[g]? = some (.cells cu 25 (0, 0)) ∧ cu.size = cap * 2 := by
        rcases hown.2 with ⟨e, _⟩ | ⟨g', cp, cur, e, _, h2, _, _, h3, _⟩
        · simp at e
        · simp at e
          obtain ⟨rfl, rfl⟩ := e
          exact ⟨cur, h2, h3⟩
      rw [run_callFunc_extern Try.func175 (by kernel_rfl) (by kernel_rfl) (by kernel_rfl) (e := Extern.SlicesOverlaps.overlaps #[31, 31] #[4]) (by kernel_rfl),
        Lib.run_overlaps_apart w 31 4 25 (elNd).und 2 (fun w => by simp [sizeOf, typeInfo, hi0, hs0]) ⟨ub, 0, none⟩ ⟨g, (i + 1) * 2, none⟩ 1 1 lb cb hug 25 25 c.toArray.size cu.size (by simp [World.shape?, hu]) (by simp [World.shape?, hcu'.1]) (by rw [hcu'.2]; omega) (by simp [World.frozen?, hu]) (by simp [World.frozen?, hu])]
      rfl
    have hm2 : Nat.min (n + 1 - i) (n - i) = n - i := by simp only [Nat.min_def]; split <;> omega
    have hownd : w.drew.ownsRow B 25 2 (.slice (some ⟨g, 0, none⟩) (n + 1) cap) (n + 1) (xs ++ J) := own_below hown1 (Below.refl _ _).drew
    have hcp1 : ∀ ty dc sc, _ := fun (ty : TypeId) (dc sc : Nat) => copy_own (P := Try.prog) (w := w.drew) (dT := 31) (sT := 31) (ty := ty) (o := (i + 1) * 2) (dLen := n - i) (dCap := dc) (sLen := n + 1 - i) (sCap := sc) (a := ⟨g, i * 2, none⟩) (elNd).und hsz hownd hm2 hdl (by omega) (fun j u hj => by rw [addr_add]; exact hdm j u hj) h1d
    have hW1o := (hcp1 0 0 0).2
    have hgr1 : w.grownBy (setCells w.drew g ((i + 1) * 2) (xs.drop (i * 2))) (some g) := grown_cells (Or.inr rfl) _ _ _ ⟨rfl, rfl, rfl, Nat.le_refl _, fun _ _ _ => rfl⟩
    have hub1 : (setCells w.drew g ((i + 1) * 2) (xs.drop (i * 2))).heap[ub]? = some (.cells c.toArray 25 (0, 0)) := block_stores_other hug _ _ _ hu
    obtain ⟨W1, hW1⟩ : ∃ W1, W1 = setCells w.drew g ((i + 1) * 2) (xs.drop (i * 2)) := ⟨_, rfl⟩
    rw [← hW1] at hcp1 hW1o hgr1 hub1
    have hcp2 : ∀ ty dc, _ := fun (ty : TypeId) (dc : Nat) => copy_own (P := Try.prog) (w := W1) (dT := 31) (sT := 31) (ty := ty) (cs := c) (o := i * 2) (dLen := n + 1 - i) (dCap := dc) (sLen := 1) (sCap := 1) (a := ⟨ub, 0, none⟩) (elNd).und hsz hW1o hm1 (by rw [hc]) (by omega) (fun j u hj => by rw [addr_add, Nat.zero_add]; exact (row_cell j u hub1 (by simpa using hj)).1) h1c
    have hfin := (hcp2 0 0).2
    rw [ins_shift hxl hi hc hJ] at hfin
    have hgr2 : w.grownBy (setCells W1 g (i * 2) c) (some g) := grown_cells (Or.inr rfl) _ _ _ hgr1
    obtain ⟨W2, hW2⟩ : ∃ W2, W2 = setCells W1 g (i * 2) c := ⟨_, rfl⟩
    rw [← hW2] at hcp2 hfin hgr2
    have HF := Lib.hid (And.intro hfin hgr2)
    have hb6 : (cap = i + 1) = False := eq_false (by omega)
    have hb7 : decide ((cap : Int) < (n : Int) + 1) = false := decide_eq_false (by omega)
    have hb8 : (i : Int) ≤ (n : Int) + 1 := by omega
    have hb9 : (i : Int) + 1 ≤ (n : Int) + 1 := by omega
    have htn2 : ((n : Int) + 1).toNat = n + 1 := by omega
    clear hown hown1 hownd hW1o hgr1 hub1 hgr2 hfin hW1 hW2 hcu hsv hu hdm hcx
    go_enter Try.func131, Try.ntmps131
    go_wp2_with (simp only [hov])
    go_region_law (refine step_copy_run' rfl _ _ 31 31 rfl _ _ (by simp [Act.eval, Act.put]) (by simp [Act.eval, Act.put]) (hcp1 _ _ _).1 ?_)
    go_wp2_with (at_builtin; refine wpList_copy_run' _ rfl _ _ 31 31 rfl _ _ rfl rfl (hcp2 _ _).1 ?_)
    go_ret
    exact ⟨_, rfl, HF.out.1, HF.out.2⟩
  · obtain rfl : n = cap := by omega
    have hxt : (xs.take (i * 2)).length = i * 2 := by rw [List.length_take]; omega
    have hold : (Builtin.firstCells i0.size i (.slice (some ⟨g, 0, none⟩) i n)).run Try.prog w.drew = .ok (xs.take (i * 2)).toArray w.drew := by
      rw [hs0]
      refine run_firstCells_some w.drew 2 i ⟨g, 0, none⟩ i n (xs.take (i * 2)) hxt (fun j u hj => ?_)
      rw [addr_add, Nat.zero_add]
      rw [List.getElem?_take] at hj
      split at hj
      · exact hcx j u hj
      · simp at hj
    have hik : i + (n + 1 - i) = n + 1 := by omega
    have hkk : (n : Int) + 1 - (i : Int) = ((n + 1 - i : Nat) : Int) := by omega
    have hrz : ∀ ty, (Builtin.append_ #[31, 3] ty #[.slice (some ⟨g, 0, none⟩) i n, .int .i64 ((n : Int) + 1 - (i : Int))]).run Try.prog w =
        .ok (.slice (some ⟨w.heap.size, 0, none⟩) (n + 1) (grownCap w (n + 1) n 25)) (w.drew.alloc (.cells ((xs.take (i * 2)).toArray ++ Builtin.zeroCells z0.cells (n + 1 - i) ++ Builtin.zeroCells z0.cells (grownCap w (n + 1) n 25 - (n + 1))) 25)) := fun ty => by
      have h := Lib.run_append_grow_zeros w 31 3 ty 25 i0 z0 .i64 .i64 (elNd).und Try.underlying3 hi0 hz0 (some ⟨g, 0, none⟩) i n (xs.take (i * 2)) hold (n + 1 - i) (by omega) (by omega) (by omega) (by omega) (by rw [hby0]; omega) (by rw [hby0, hik]; exact growslice_fits (by omega) (by omega))
      rw [hik] at h
      rw [hkk]
      exact h
    obtain ⟨hrow, hZl⟩ := zeros_row (w := w) (e := 25) (k := 2) (n := n + 1) (i := i) (B := B) (old := n) (z := z0) (xs := xs.take (i * 2)) (by rw [hzs0]) hxt (by omega) (by omega) hB (by unfold maxLen; omega)
    have hGn := grownCap_ge w (n + 1) n 25
    have hG63 := grownCap_le_maxLen w (n + 1) n 25 (by unfold maxLen; omega)
    obtain ⟨Z, hZ⟩ : ∃ Z, Z = (Builtin.zeroCells z0.cells (n + 1 - i)).toList := ⟨_, rfl⟩
    obtain ⟨G, hG⟩ : ∃ G, G = grownCap w (n + 1) n 25 := ⟨_, rfl⟩
    rw [← hZ] at hrow hZl
    rw [← hG] at hrow hrz hGn hG63
    unfold maxLen at hG63
    obtain ⟨N, hN⟩ : ∃ N, N = w.heap.size := ⟨_, rfl⟩
    have hgl : g < N := by omega
    have hul : ub < N := by rw [hN]; exact (Array.getElem?_eq_some_iff.1 hu).1
    obtain ⟨W1, hW1⟩ : ∃ W1, W1 = w.drew.alloc (.cells ((xs.take (i * 2)).toArray ++ Builtin.zeroCells z0.cells (n + 1 - i) ++ Builtin.zeroCells z0.cells (G - (n + 1))) 25) := ⟨_, rfl⟩
    have hgr0 : w.grownBy W1 (some g) := by rw [hW1]; exact ⟨rfl, rfl, rfl, by simp, fun k hk _ => heap_alloc_old w.drew _ hk⟩
    rw [← hW1] at hrow hrz
    rw [← hN] at hrow hrz
    have hold1 : ∀ b j u, b < N → w.cell? ⟨b, j, none⟩ = some u → W1.cell? ⟨b, j, none⟩ = some u := fun b j u hb h => by
      have hbl : W1.heap[b]? = w.heap[b]? := by rw [hW1]; exact heap_alloc_old w.drew _ (show b < w.heap.size by rw [← hN]; exact hb)
      simpa [World.cell?, hbl] using h
    have hnN : w.heap.size ≤ N ∨ some g = some N := Or.inl (by omega)
    have hcp1 : ∀ ty dc, _ := fun (ty : TypeId) (dc : Nat) => copy_own (P := Try.prog) (w := W1) (dT := 31) (sT := 31) (ty := ty) (cs := c) (o := i * 2) (dLen := n + 1 - i) (dCap := dc) (sLen := 1) (sCap := 1) (a := ⟨ub, 0, none⟩) (elNd).und hsz hrow hm1 (by rw [hc]) (by omega) (fun j u hj => by rw [addr_add, Nat.zero_add]; exact hold1 _ _ _ hul (hcu j u hj)) h1c
    have hW2o := (hcp1 0 0).2
    have hgr1 : w.grownBy (setCells W1 N (i * 2) c) (some g) := grown_cells hnN _ _ _ hgr0
    have hold2 : ∀ j u, w.cell? ⟨g, j, none⟩ = some u → (setCells W1 N (i * 2) c).cell? ⟨g, j, none⟩ = some u := fun j u h => by
      have h2 := hold1 g j u hgl h
      rw [← setCells_eq]
      rw [World.cell?_setCells_out _ _ _ _ _ (fun h _ => by dsimp only at h; omega)]
      exact h2
    obtain ⟨W2, hW2⟩ : ∃ W2, W2 = setCells W1 N (i * 2) c := ⟨_, rfl⟩
    rw [← hW2] at hcp1 hW2o hgr1 hold2
    have hW2d : W2.drew.ownsRow B 25 2 _ (n + 1) _ := own_below hW2o (Below.refl _ _).drew
    have hm3 : Nat.min (n - i) (n - i) = n - i := by simp
    have hcp2 : ∀ ty dc sc, _ := fun (ty : TypeId) (dc sc : Nat) => copy_own (P := Try.prog) (w := W2.drew) (dT := 31) (sT := 31) (ty := ty) (o := (i + 1) * 2) (dLen := n - i) (dCap := dc) (sLen := n - i) (sCap := sc) (a := ⟨g, i * 2, none⟩) (elNd).und hsz hW2d hm3 hdl (by omega) (fun j u hj => by rw [addr_add]; exact hold2 _ _ (hdm j u hj)) h1d
    have hfin := (hcp2 0 0 0).2
    rw [ins_grow hxl hi hc hZl] at hfin
    have hgr2 : w.grownBy (setCells W2.drew N ((i + 1) * 2) (xs.drop (i * 2))) (some g) := grown_cells hnN _ _ _ ⟨hgr1.os, hgr1.tape, hgr1.output, hgr1.size, hgr1.block⟩
    obtain ⟨W3, hW3⟩ : ∃ W3, W3 = setCells W2.drew N ((i + 1) * 2) (xs.drop (i * 2)) := ⟨_, rfl⟩
    rw [← hW3] at hcp2 hfin hgr2
    have HF := Lib.hid (And.intro hfin hgr2)
    have hg5 : (G = i) = False := eq_false (by omega)
    have hg6 : (G = i + 1) = False := eq_false (by omega)
    have hb7 : decide ((n : Int) < (n : Int) + 1) = true := decide_eq_true (by omega)
    have hb8 : (i : Int) ≤ (n : Int) + 1 := by omega
    have hb9 : (i : Int) + 1 ≤ (n : Int) + 1 := by omega
    clear hown hrow hW2o hW2d hgr0 hgr1 hgr2 hfin hW1 hW2 hW3 hcu hsv hu hdm hcx hold hold1 hold2 hkk hik hG hN hnN
    go_enter Try.func131, Try.ntmps131
    go_wp2_with (first
      | (at_builtin; refine Lib.wpList_append_run _ rfl _ _ _ _ rfl _ _ rfl rfl _ _ (hrz _) ?_)
      | (at_builtin; refine wpList_copy_run' _ rfl _ _ 31 31 rfl _ _ rfl rfl (hcp1 _ _).1 ?_))
    go_region_law (refine step_copy_run' rfl _ _ 31 31 rfl _ _ (by simp [Act.eval, Act.put]) (by simp [Act.eval, Act.put]) (hcp2 _ _ _).1 ?_)
    go_wp2
    go_ret
    exact ⟨_, rfl, HF.out.1, HF.out.2⟩
end Go.Proofs.Ytcljeedmiobepaa.Nod
/-
  The ring: slices.Delete and slices.Insert on nodes; ring.Leave.
-/
namespace Go.Proofs.Ytcljeedmiobepaa.Rng
open Go.RowKit Go.Gh Go.Proofs.Ytcljeedmiobepaa.Nod
set_option linter.unusedVariables false
theorem delete_node (v : Value) (L : List Nd) (i B : Nat) (w : World) (ho : Ow (NdA 25 B) 2 25 B w v L) (hi : i < L.length) (hl : L.length ≤ 100) (hB : B ≤ w.heap.size) :
    Calls Try.prog 133 #[v, .int .i64 i, .int .i64 ((i : Int) + 1)] w fun e w' => ∃ v', e = .returned v' ∧ Sp NdR 2 w' v' (L.take i ++ L.drop (i + 1)) ∧ Below B w w' := by
  obtain ⟨P, h1, h2, h3, h4⟩ := ho
  obtain ⟨g, cap, rfl, hg, -, -, -, -⟩ := own_some h4 (by omega)
  have hpl : P.length = L.length := by rw [← h1, List.length_map]
  refine (delete_nd _ i B g cap _ w h4 hi (by omega) (pc_one fun p hp => nd_one (ndA_ndR _ _ (h3 p hp)))).mono ?_
  rintro e w' ⟨rfl, hown, hgr⟩
  refine ⟨_, rfl, ⟨P.take i ++ P.drop (i + 1), by rw [List.map_append, List.map_take, List.map_drop, h1], fun p hp => ?_, fun p hp => ?_, ?_⟩, below_of_grown hgr hB (fun k hk => by injection hk with hk; omega)⟩
  · rcases List.mem_append.1 hp with hp | hp
    · exact h2 p (List.mem_of_mem_take hp)
    · exact h2 p (List.mem_of_mem_drop hp)
  · have hm : p ∈ P := by
      rcases List.mem_append.1 hp with hp | hp
      · exact List.mem_of_mem_take hp
      · exact List.mem_of_mem_drop hp
    exact ndA_ndR _ _ (ndA_grow w w' _ _ _ _ _ (h3 p hm) h4 hgr)
  · rw [pc_append, ← pc_take h2, ← pc_drop h2 _ (by omega), show (L.take i ++ L.drop (i + 1)).length = L.length - 1 by rw [List.length_append, List.length_take, List.length_drop]; omega]
    exact own_sl hown
theorem insert_node (v : Value) (L : List Nd) (x : Nd) (t : Value) (i B ub : Nat) (w : World) (ho : Ow (NdA 25 B) 2 25 B w v L) (hu : w.heap[ub]? = some (.cells #[.string x.nm, t] 25 (0, 0))) (hne : v.ownBlock ≠ some ub) (hx : Toks w t x.tk) (hxa : 0 < x.tk.length → Apart w B 25 t) (hi : i ≤ L.length) (hl : L.length ≤ 100) (hB : B ≤ w.heap.size) :
    Calls Try.prog 131 #[v, .int .i64 i, .slice (some ⟨ub, 0, none⟩) 1 1] w fun e w' => ∃ v', e = .returned v' ∧ Sp NdR 2 w' v' (L.take i ++ x :: L.drop i) ∧ Below B w w' := by
  obtain ⟨P, h1, h2, h3, h4⟩ := ho
  have hpl : P.length = L.length := by rw [← h1, List.length_map]
  refine (insert_nd v _ i B ub _ [.string x.nm, t] w h4 hu rfl hne hi (by omega) hB (pc_one fun p hp => nd_one (ndA_ndR _ _ (h3 p hp))) (nd_one ⟨t, rfl, hx⟩)).mono ?_
  rintro e w' ⟨v', rfl, hown, hgr⟩
  refine ⟨v', rfl, ⟨P.take i ++ (x, [.string x.nm, t]) :: P.drop i, by rw [map_ins, h1], h2.ins rfl i, ?_, ?_⟩, below_of_grown hgr hB (fun k hk => (h4.lt k hk).1)⟩
  · refine all_ins (Q := fun p => NdR w' p.1 p.2) (fun p hp => ndA_ndR _ _ (ndA_grow w w' _ _ _ _ _ (h3 p hp) h4 hgr)) ?_ i
    refine ⟨t, rfl, ?_⟩
    rcases Nat.eq_zero_or_pos x.tk.length with hz | hp
    · exact toks_empty hx hz
    · exact ⟨hx.1.grownA (hxa hp) h4 hgr, hx.2⟩
  · rw [pc_ins, show (L.take i ++ x :: L.drop i).length = L.length + 1 by rw [List.length_append, List.length_cons, List.length_take, List.length_drop]; omega]
    have := own_sl hown
    rwa [pc_take h2, pc_drop h2 _ (by omega)] at this
/-- Names that stand once: without the name is without that place. -/
theorem outN_is {L : List Nd} {nm : ByteArray} {i : Nat} {x : Nd} (hz : nodesF L = 0) (hx : L[i]? = some x) (hn : x.nm.toList = nm.toList) : outN L nm = L.take i ++ L.drop (i + 1) := by
  obtain ⟨h1, h2⟩ := List.getElem?_eq_some_iff.1 hx
  have hpw := (nodes_zero hz).2.2
  have e : L = L.take i ++ x :: L.drop (i + 1) := by
    conv => lhs; rw [← List.take_append_drop i L, List.drop_eq_getElem_cons h1, h2]
  have hne : ∀ y : Nd, keyS y.nm ≠ keyS x.nm → (!(y.nm.toList == nm.toList)) = true := fun y hy => by
    rw [Bool.not_eq_true', beq_eq_false_iff_ne]
    intro h
    have := toList_inj (h.trans hn.symm)
    exact hy (by rw [this])
  rw [e] at hpw
  obtain ⟨hp1, hp2, hp3⟩ := List.pairwise_append.1 hpw
  have f1 : (L.take i).filter (fun x => !(x.nm.toList == nm.toList)) = L.take i := List.filter_eq_self.2 fun y hy => hne y (by have := hp3 y hy x (by simp); omega)
  have f2 : (L.drop (i + 1)).filter (fun x => !(x.nm.toList == nm.toList)) = L.drop (i + 1) := List.filter_eq_self.2 fun y hy => hne y (by have := (List.pairwise_cons.1 hp2).1 y hy; omega)
  unfold outN
  conv => lhs; rw [e]
  rw [List.filter_append, List.filter_cons, f1, f2]
  simp [hn]
def LvPost (L : List Nd) (nm : ByteArray) (w : World) (e : Ending) (w' : World) : Prop := ∃ v' l k, e = .returned (.tuple #[v', .int .i64 k]) ∧ Sp NdR 2 w' v' l ∧ Below w.heap.size w w' ∧ if nodesF L ≠ 0 then l = [] ∧ k = nodesF L else if hasN L nm = false then l = [] ∧ k = 7 else l = outN L nm ∧ k = 0
theorem idx_has {L : List Nd} {nm : ByteArray} {r : Int} (h : IdxIs L nm r) : (r < 0 ∧ hasN L nm = false) ∨ (0 ≤ r ∧ hasN L nm = true ∧ ∃ (i : Nat) (x : Nd), r = i ∧ L[i]? = some x ∧ x.nm.toList = nm.toList) := by
  rcases h with ⟨rfl, h⟩ | ⟨k, x, rfl, h1, h2, h3⟩
  · exact Or.inl ⟨by omega, hasN_no h⟩
  · exact Or.inr ⟨by omega, hasN_yes (List.mem_of_getElem? h1) h2, k, x, rfl, h1, h2⟩
set_option maxHeartbeats 8000000 in
set_option maxRecDepth 100000 in
theorem leave_any (v : Value) (L : List Nd) (nm : ByteArray) (w : World) (hs : Sp NdR 2 w v L) : Calls Try.prog 62 #[v, .string nm] w (LvPost L nm w) := by
  obtain ⟨n, hn⟩ : ∃ n, L.length = n := ⟨_, rfl⟩
  obtain ⟨ao, c, rfl, hnc, hc⟩ := hs.shapeN hn
  obtain ⟨E, hE⟩ : ∃ E, nodesF L = E := ⟨_, rfl⟩
  have HE := Lib.hid hE
  have HN := Lib.hid hn
  have HS := Lib.hid hs
  clear hn hs hE
  by_cases hz : E = 0
  case neg =>
    have t1 : (E != 0) = true := by rw [bne_iff_ne]; exact hz
    go_enter Try.func62, Try.ntmps62
    go_wp2_with (go_at_call 64; refine (check_any _ L _ HS.out).mono ?_; rw [HE.out]; rintro e w1 ⟨rfl, hb1⟩)
    go_ret2
    refine ⟨_, [], E, rfl, Sp.nil, hb1, ?_⟩
    rw [HE.out, if_pos hz]
    exact ⟨rfl, rfl⟩
  subst hz
  go_enter Try.func62, Try.ntmps62
  go_wp2_with (go_at_call 64; refine (check_any _ L _ HS.out).mono ?_; rw [HE.out]; rintro e w1 ⟨rfl, hb1⟩)
  have HS1 := Lib.hid (HS.out.below ndR_mono hb1)
  refine (find_any _ L nm _ HS1.out).mono ?_
  rintro e w2 ⟨r, rfl, hr, hb2⟩
  have HB2 := Lib.hid (hb1.trans (hb2.mono hb1.size))
  have HS2 := Lib.hid (HS1.out.below ndR_mono hb2)
  clear hb1 hb2
  rcases idx_has hr with ⟨hr0, hno⟩ | ⟨hr0, hyes, i, x, hri, hx, hxn⟩
  · have HNO := Lib.hid hno
    clear hr hno
    have t1 : decide (r < 0) = true := decide_eq_true hr0
    go_wp2_with fail
    go_ret2
    refine ⟨_, [], 7, rfl, Sp.nil, HB2.out, ?_⟩
    rw [if_neg (by simp [HE.out]), if_pos HNO.out]
    exact ⟨rfl, rfl⟩
  · subst hri
    have HOUT : Hid (outN L nm = L.take i ++ L.drop (i + 1)) := Lib.hid (outN_is HE.out hx hxn)
    have HYES := Lib.hid hyes
    obtain ⟨hil, -⟩ := List.getElem?_eq_some_iff.1 hx
    have HIL := Lib.hid hil
    obtain ⟨z1, z2, z3⟩ := nodes_zero HE.out
    have HL100 : Hid (L.length ≤ 20) := Lib.hid z1
    have HTK : Hid (∀ x ∈ outN L nm, x.tk.length ≤ 1000) := Lib.hid fun x hx => by have := (z2 x (List.mem_filter.1 (show x ∈ L.filter _ from hx)).1).2.2.1; omega
    have hi63 : (i : Int) + 1 < 9223372036854775808 := by omega
    have t1 : decide ((i : Int) < 0) = false := decide_eq_false (by omega)
    clear hr hyes hx hxn hil z1 z2 z3
    go_wp2_with (first
      | (go_at_call 132; refine (clone_node _ L _ HS2.out (by have := HL100.out; omega)).mono ?_; rintro e w3 ⟨v3, rfl, ho3, hb3⟩; have HO3 := Lib.hid ho3; have HB3 := Lib.hid (HB2.out.trans (hb3.mono HB2.out.size)); have HB3' := Lib.hid hb3)
      | (go_at_call 133; refine (delete_node _ L i _ _ HO3.out HIL.out (by have := HL100.out; omega) HB3'.out.size).mono ?_; rintro e w4 ⟨v4, rfl, hs4, hb4⟩; rw [← HOUT.out] at hs4; have HS4 := Lib.hid hs4; have HB4 := Lib.hid (HB3.out.trans (hb4.mono HB2.out.size)))
      | (go_at_call 130; refine (ringown_any _ (outN L nm) _ HS4.out (by have h1 := List.length_filter_le (fun x : Nd => !(x.nm.toList == nm.toList)) L; have h2 := HL100.out; unfold outN; omega) HTK.out).mono ?_; rintro e w5 ⟨v5, rfl, hs5, hb5⟩; have HS5 := Lib.hid hs5; have HB5 := Lib.hid (HB4.out.trans (hb5.mono HB4.out.size))))
    all_goals
      go_ret2
      refine ⟨_, outN L nm, 0, rfl, HS5.out, HB5.out, ?_⟩
      rw [if_neg (by simp [HE.out]), if_neg (by simp [HYES.out])]
      exact ⟨rfl, rfl⟩
end Go.Proofs.Ytcljeedmiobepaa.Rng
/-
  The ring: the walk of Share.
-/
namespace Go.Proofs.Ytcljeedmiobepaa.Rng
open Go.RowKit Go.Gh Go.Proofs.Ytcljeedmiobepaa.Nod
set_option linter.unusedVariables false
def ShPost (L : List Nd) (nm : ByteArray) (w : World) (e : Ending) (w' : World) : Prop := ∃ s k : Int, e = .returned (.tuple #[.int .u64 s, .int .i64 k]) ∧ Below w.heap.size w w' ∧ if nodesF L ≠ 0 then s = 0 ∧ k = nodesF L else if hasN L nm = false then s = 0 ∧ k = 7 else s = shareP (cpF (srt (pls L))) nm ∧ k = 0
theorem cp_len : ∀ l : List Pl, (cpF l).length ≤ l.length := by
  have h : ∀ (l : List Pl) (acc : List Pl), (l.foldl stepC acc).length ≤ acc.length + l.length := by
    intro l
    induction l with
    | nil => intro acc; exact Nat.le_refl _
    | cons x l ih =>
      intro acc
      have := ih (stepC acc x)
      have h2 : (stepC acc x).length ≤ acc.length + 1 := by
        unfold stepC
        split
        · omega
        · simp
      rw [List.foldl_cons]
      simp only [List.length_cons]
      omega
  intro l
  have := h l []
  unfold cpF
  simpa using this
open Classical in
theorem shPS_yes {c : List Pl} {nm : ByteArray} {st : Nat × Int} {i : Nat} {x : Pl} (hx : c[i]? = some x) (hn : x.nm = nm) : shPS c nm st i = (st.1 + 1, (st.2 + distR (prevT c i) x.t) % 18446744073709551616) := by
  unfold shPS
  rw [hx]
  dsimp only
  rw [if_pos hn]
open Classical in
theorem shPS_no {c : List Pl} {nm : ByteArray} {st : Nat × Int} {i : Nat} {x : Pl} (hx : c[i]? = some x) (hn : ¬ x.nm = nm) : shPS c nm st i = st := by
  unfold shPS
  rw [hx]
  dsimp only
  rw [if_neg hn]
set_option maxHeartbeats 8000000 in
set_option maxRecDepth 100000 in
theorem share_any (v : Value) (L : List Nd) (nm : ByteArray) (w : World) (hs : Sp NdR 2 w v L) : Calls Try.prog 60 #[v, .string nm] w (ShPost L nm w) := by
  obtain ⟨ao, c, rfl, hnc, hc⟩ := hs.shape
  obtain ⟨n, hn⟩ : ∃ n, L.length = n := ⟨_, rfl⟩
  rw [hn] at hs hnc ⊢
  obtain ⟨E, hE⟩ : ∃ E, nodesF L = E := ⟨_, rfl⟩
  have HE := Lib.hid hE
  have HN := Lib.hid hn
  have HS := Lib.hid hs
  clear hn hs hE
  by_cases hz : E = 0
  case neg =>
    have t1 : (E != 0) = true := by rw [bne_iff_ne]; exact hz
    go_enter Try.func60, Try.ntmps60
    go_wp2_with (go_at_call 64; refine (check_any _ L _ HS.out).mono ?_; rw [HE.out]; rintro e w1 ⟨rfl, hb1⟩)
    go_ret2
    refine ⟨0, E, rfl, hb1, ?_⟩
    rw [HE.out, if_pos hz]
    exact ⟨rfl, rfl⟩
  subst hz
  obtain ⟨z1, z2, z3⟩ := nodes_zero HE.out
  have HTK : Hid (∀ x ∈ L, x.tk.length ≤ 20) := Lib.hid fun x hx => (z2 x hx).2.2.1
  have HL20 : Hid (L.length ≤ 20) := Lib.hid z1
  obtain ⟨Q, hQ⟩ : ∃ Q, srt (pls L) = Q := ⟨_, rfl⟩
  have hQl : (pls L).length = Q.length := by rw [← hQ]; exact (srt_perm _).length_eq.symm
  have HQL : Hid (Q.length ≤ 400) := Lib.hid (by have := pls_len HTK.out; omega)
  have HQS : Hid (∀ (w : World) (v : Value) (B : Nat), w.ownsRow B 186 2 v (pls L).length (encL (srt (pls L))) → w.ownsRow B 186 2 v Q.length (encL Q)) := Lib.hid fun w v B h => by rw [hQ, hQl] at h; exact h
  have HQE := Lib.hid hQ
  clear z1 z2 z3 hQ hQl
  go_enter Try.func60, Try.ntmps60
  go_wp2_with (go_at_call 64; refine (check_any _ L _ HS.out).mono ?_; rw [HE.out]; rintro e w1 ⟨rfl, hb1⟩)
  have HS1 := Lib.hid (HS.out.below ndR_mono hb1)
  refine (find_any _ L nm _ HS1.out).mono ?_
  rintro e w2 ⟨r, rfl, hr, hb2⟩
  have HB2 := Lib.hid (hb1.trans (hb2.mono hb1.size))
  have HS2 := Lib.hid (HS1.out.below ndR_mono hb2)
  clear hb1 hb2
  rcases idx_has hr with ⟨hr0, hno⟩ | ⟨hr0, hyes, -⟩
  · have HNO := Lib.hid hno
    clear hr hno
    have t1 : decide (r < 0) = true := decide_eq_true hr0
    go_wp2_with fail
    go_ret2
    refine ⟨0, 7, rfl, HB2.out, ?_⟩
    rw [if_neg (by simp [HE.out]), if_pos HNO.out]
    exact ⟨rfl, rfl⟩
  have HYES := Lib.hid hyes
  have t1 : decide (r < 0) = false := decide_eq_false (by omega)
  clear hr hyes
  go_wp2_with fail
  refine (places_any _ L _ HS2.out HL20.out HTK.out).mono ?_
  rintro e w3 ⟨v3, rfl, hown3, hb3⟩
  have HO3 := Lib.hid (HQS.out _ _ _ hown3)
  have HB3 := Lib.hid (HB2.out.trans (hb3.mono HB2.out.size))
  have hw23 := hb3.size
  clear hown3 hb3
  obtain ⟨po, pcc, rfl, hp1, hp2, -⟩ := own_shape HO3.out
  go_wp2_with fail
  refine (compact_pl _ w2.heap.size Q _ HO3.out (by have := HQL.out; omega) hw23).mono ?_
  rintro e w4 ⟨v4, rfl, hs4, hb4⟩
  have HB4 : Hid (Below w.heap.size w w4) := Lib.hid (HB3.out.trans (hb4.mono HB2.out.size))
  obtain ⟨C, hC⟩ : ∃ C, cpF Q = C := ⟨_, rfl⟩
  rw [hC] at hs4
  obtain ⟨m, hm⟩ : ∃ m, C.length = m := ⟨_, rfl⟩
  have hm4 : m ≤ 400 := by have := cp_len Q; have h2 := HQL.out; rw [hC, hm] at this; omega
  obtain ⟨co, cc, rfl, hc1, hc2⟩ := hs4.shapeN hm
  have HSC := Lib.hid hs4
  have HM := Lib.hid hm
  have HCE : Hid (cpF (srt (pls L)) = C) := Lib.hid (by rw [HQE.out]; exact hC)
  clear hC hs4 hm hb4 hp1
  go_wp2_with fail
  go_loopw [8, 9, 26] (fun s o i wr => ∃ (k p : Nat) (S : Int), k ≤ m ∧ p ≤ k ∧ s = .int .u64 S ∧ o = .int .i64 p ∧ i = .int .i64 k ∧ Hid (shP C nm k = (p, S)) ∧ Below w4.heap.size w4 wr) (fun _ _ i _ => m - (intOf i).toNat)
  case atStart => exact ⟨0, 0, 0, Nat.zero_le _, Nat.le_refl _, rfl, rfl, rfl, Lib.hid rfl, Below.refl _ _⟩
  case round =>
    obtain ⟨k, p, S, hk, hpk, rfl, rfl, rfl, HP, hbel⟩ := hrel
    have HBW : Hid (Below w.heap.size w wr) := Lib.hid (HB4.out.trans (hbel.mono HB4.out.size))
    by_cases hlt : k < m
    case neg =>
      obtain rfl : k = m := by omega
      have HSH : Hid (shareP (cpF (srt (pls L))) nm = if 0 < p ∧ p = k then 18446744073709551615 else S) := Lib.hid (by
        rw [HCE.out]
        unfold shareP
        rw [HM.out, HP.out])
      by_cases hfull : 0 < p ∧ p = k
      · obtain ⟨h0, rfl⟩ := hfull
        have ht : decide ((p : Int) > 0) = true := decide_eq_true (by omega)
        go_wp2_with fail
        go_ret2
        refine ⟨_, 0, rfl, HBW.out, ?_⟩
        rw [if_neg (by simp [HE.out]), if_neg (by simp [HYES.out]), HSH.out, if_pos ⟨h0, by trivial⟩]
        exact ⟨rfl, rfl⟩
      · have HF := Lib.hid hfull
        by_cases h0 : 0 < p
        · have hpk2 : ((p : Int) == (k : Int)) = false := beq_eq_false_iff_ne.2 (by omega)
          have ht : decide ((p : Int) > 0) = true := decide_eq_true (by omega)
          clear hfull
          go_wp2_with fail
          go_ret2
          refine ⟨_, 0, rfl, HBW.out, ?_⟩
          rw [if_neg (by simp [HE.out]), if_neg (by simp [HYES.out]), HSH.out, if_neg HF.out]
          exact ⟨rfl, rfl⟩
        · obtain rfl : p = 0 := by omega
          clear hfull
          go_wp2_with fail
          go_ret2
          refine ⟨_, 0, rfl, HBW.out, ?_⟩
          rw [if_neg (by simp [HE.out]), if_neg (by simp [HYES.out]), HSH.out, if_neg HF.out]
          exact ⟨rfl, rfl⟩
    obtain ⟨x, hx⟩ : ∃ x, C[k]? = some x := ⟨_, List.getElem?_eq_getElem (by rw [HM.out]; exact hlt)⟩
    obtain ⟨b, off, cs, rfl, rfl, _, hck⟩ := (HSC.out.below plR_mono hbel).get hx
    have c0 := hck 0 _ rfl
    have c1 := hck 1 _ rfl
    rw [Nat.add_zero] at c0
    obtain ⟨r, hr⟩ : ∃ r, (k + m - 1) % m = r := ⟨_, rfl⟩
    have hrm : r < m := by rw [← hr]; exact Nat.mod_lt _ (by omega)
    obtain ⟨y, hy⟩ : ∃ y, C[r]? = some y := ⟨_, List.getElem?_eq_getElem (by rw [HM.out]; exact hrm)⟩
    have HPV : Hid (prevT C k = y.t) := Lib.hid (by unfold prevT; rw [HM.out, hr, hy]; rfl)
    have HX := Lib.hid hx
    have HSUC : Hid (shP C nm (k + 1) = shPS C nm (p, S) k) := Lib.hid (by rw [shP_succ, HP.out])
    clear hck hx
    go_upto_region 12 with (fail)
    obtain ⟨wA, hwA⟩ : ∃ wA, wA = wr.alloc (Obj.cells #[.int .u64 x.t, .string x.nm] 186) := ⟨_, rfl⟩
    have hbox : wA.heap[wr.heap.size]? = some (.cells #[.int .u64 x.t, .string x.nm] 186 (0, 0)) := by rw [hwA]; exact heap_alloc_new wr _
    have hbA : Below wr.heap.size wr wA := by rw [hwA]; exact (Below.refl _ _).alloc (Nat.le_refl _) _
    rw [← hwA]
    have hBA : Below w4.heap.size w4 wA := hbel.trans (hbA.mono hbel.size)
    have HBA := Lib.hid hBA
    obtain ⟨b', off', cs', e', rfl, _, hck⟩ := (HSC.out.below plR_mono hBA).get hy
    injection e' with e'
    injection e' with e1 e2
    subst e1
    subst e2
    have p0 := hck 0 _ rfl
    rw [Nat.add_zero] at p0
    obtain ⟨⟨y0, y1⟩, -⟩ := bx2 hbox
    generalize wr.heap.size = bx at *
    clear hwA hbox hbA hBA c0 c1 hbel hck hy
    by_cases hn : x.nm.toList = nm.toList
    · have tn : (x.nm.toList == nm.toList) = true := beq_iff_eq.2 hn
      have HS2 : Hid (shP C nm (k + 1) = (p + 1, (S + distR y.t x.t) % 18446744073709551616)) := Lib.hid (by
        rw [HSUC.out, shPS_yes HX.out (toList_inj hn), HPV.out])
      have hrem : Int.tmod ((k : Int) + (m : Int) - 1) (m : Int) = (r : Int) := by
        rw [Int.tmod_eq_emod_of_nonneg (by omega), ← hr, Int.natCast_emod]
        congr 1
        omega
      have hm0 : ¬ m = 0 := by omega
      have hw1 : IntKind.i64.wrap ((k : Int) + (m : Int)) = (k : Int) + (m : Int) := by rw [IntKind.wrap_i64]; omega
      have hw2 : IntKind.i64.wrap ((k : Int) + (m : Int) - 1) = (k : Int) + (m : Int) - 1 := by rw [IntKind.wrap_i64]; omega
      have hw3 : IntKind.i64.wrap (r : Int) = (r : Int) := by rw [IntKind.wrap_i64]; omega
      have hr0 : (0 : Int) ≤ (r : Int) := by omega
      have hr1 : (r : Int) < (m : Int) := by omega
      obtain ⟨d, hd⟩ : ∃ d, distR y.t x.t = d := ⟨_, rfl⟩
      have hsub : IntKind.u64.wrap (x.t - y.t) = d := by rw [IntKind.wrap_u64, ← hd]; rfl
      obtain ⟨S2, hS2⟩ : ∃ S2, (S + d) % 18446744073709551616 = S2 := ⟨_, rfl⟩
      have hsum : IntKind.u64.wrap (S + d) = S2 := by rw [IntKind.wrap_u64, ← hS2]
      rw [hd, hS2] at HS2
      clear hd hS2 hn
      go_wp2_with fail
      go_quiet (fail)
      go_wp2_with fail
      go_roundw
      case rel => exact ⟨k + 1, p + 1, S2, by omega, by omega, rfl, by go_num, by go_num, HS2, below_drewN HBA.out _⟩
      case measure => simp [intOf]; omega
    · have tn : (x.nm.toList == nm.toList) = false := beq_eq_false_iff_ne.2 hn
      have HS2 : Hid (shP C nm (k + 1) = (p, S)) := Lib.hid (by
        rw [HSUC.out, shPS_no HX.out (fun e => hn (by rw [e]))])
      clear hn
      go_wp2_with fail
      go_roundw
      case rel => exact ⟨k + 1, p, S, by omega, by omega, rfl, rfl, by go_num, HS2, HBA.out⟩
      case measure => simp [intOf]; omega
end Go.Proofs.Ytcljeedmiobepaa.Rng
/-
  The ring: the walk of ShareOf.
-/
namespace Go.Proofs.Ytcljeedmiobepaa.Rng
open Go.RowKit Go.Gh Go.Proofs.Ytcljeedmiobepaa.Nod
set_option linter.unusedVariables false
section
variable {l : List Pl} {ow : Int → ByteArray} {name : ByteArray} {st : Bool × Bool × Int} {x : Pl}
theorem shRS_other (h : ¬ ow x.t = name) : shRS l ow name st x = (st.1, true, st.2.2) := by unfold shRS; rw [if_pos h]
theorem shRS_skip (h : ow x.t = name) (h2 : ¬ x.nm = name) : shRS l ow name st x = st := by unfold shRS; rw [if_neg (fun h' => h' h), if_pos h2]
theorem shRS_mine (h : ow x.t = name) (h2 : x.nm = name) : shRS l ow name st x = (true, st.2.1, (st.2.2 + farF l x.t) % 18446744073709551616) := by unfold shRS; rw [if_neg (fun h' => h' h), if_neg (fun h' => h' h2)]
theorem shR_snoc (m : List Pl) : shR l ow name (m ++ [x]) = shRS l ow name (shR l ow name m) x := by unfold shR; rw [List.foldl_append]; rfl
end
theorem far_snoc (t : Int) (l : List Pl) (y : Pl) : (l ++ [y]).foldl (farS t) 0 = farS t (l.foldl (farS t) 0) y := by rw [List.foldl_append]; rfl
/-- Is this distance taken? -/
def farC (far d : Int) : Bool := decide (0 < d) && (decide (far = 0) || decide (d < far))
theorem farC_is (t far : Int) (y : Pl) : farS t far y = if farC far (distR y.t t) then distR y.t t else far := by
  unfold farS farC
  by_cases h1 : 0 < distR y.t t <;> by_cases h2 : far = 0 <;> by_cases h3 : distR y.t t < far <;> simp [h1, h2, h3]
  all_goals (try omega)
set_option maxHeartbeats 16000000 in
set_option maxRecDepth 100000 in
theorem shareof_any (v : Value) (L : List Nd) (nm : ByteArray) (w : World) (hs : Sp NdR 2 w v L) (hz : nodesF L = 0) :
    Calls Try.prog 70 #[v, .string nm] w fun e w' => e = .returned (.int .u64 (shareR (pls L) (ow1 L) nm)) ∧ Below w.heap.size w w' := by
  obtain ⟨n, hn⟩ : ∃ n, L.length = n := ⟨_, rfl⟩
  obtain ⟨ao, c, rfl, hnc, hc⟩ := hs.shapeN hn
  have HTW := Lib.hid (tkw_of hs)
  have HN := Lib.hid hn
  have HS := Lib.hid hs
  have HZ := Lib.hid hz
  obtain ⟨z1, z2, z3⟩ := nodes_zero hz
  have hn20 : n ≤ 20 := by omega
  have HTK : Hid (∀ x ∈ L, x.tk.length ≤ 20) := Lib.hid fun x hx => (z2 x hx).2.2.1
  obtain ⟨SH, hSH⟩ : ∃ SH, shareR (pls L) (ow1 L) nm = SH := ⟨_, rfl⟩
  rw [hSH]
  have HSH := Lib.hid hSH
  clear hn hs hz z1 z2 z3 hSH
  go_enter Try.func70, Try.ntmps70
  go_wp2_with fail
  go_loopw [5, 6, 7, 20] (fun s mi ot i wr => ∃ (k : Nat) (M O : Bool) (S : Int), k ≤ n ∧ s = .int .u64 S ∧ mi = .bool M ∧ ot = .bool O ∧ i = .int .i64 k ∧ Hid (shR (pls L) (ow1 L) nm (pls (L.take k)) = (M, O, S)) ∧ Below w.heap.size w wr) (fun _ _ _ i _ => n - (intOf i).toNat)
  case atStart => exact ⟨0, false, false, 0, Nat.zero_le _, rfl, rfl, rfl, rfl, Lib.hid rfl, Below.refl _ _⟩
  case round =>
    obtain ⟨k, M, O, S, hk, rfl, rfl, rfl, rfl, HSR, hbel⟩ := hrel
    have HBL := Lib.hid hbel
    by_cases hlt : k < n
    case neg =>
      obtain rfl : k = n := by omega
      have hLk : L.take k = L := List.take_of_length_le (by rw [HN.out]; exact Nat.le_refl _)
      rw [hLk] at HSR
      have hR : SH = if M = true ∧ O = false then 18446744073709551615 else S := by
        rw [← HSH.out]
        unfold shareR
        rw [HSR.out]
      cases M with
      | false =>
        have HR : Hid (SH = S) := Lib.hid (by rw [hR, if_neg (by simp)])
        clear hR
        go_wp2_with fail
        go_ret
        exact ⟨by rw [HR.out]; rfl, HBL.out⟩
      | true =>
        cases O with
        | true =>
          have HR : Hid (SH = S) := Lib.hid (by rw [hR, if_neg (by simp)])
          clear hR
          go_wp2_with fail
          go_ret
          exact ⟨by rw [HR.out]; rfl, HBL.out⟩
        | false =>
          have HR : Hid (SH = 18446744073709551615) := Lib.hid (by rw [hR, if_pos ⟨rfl, rfl⟩])
          clear hR
          go_wp2_with fail
          go_ret
          exact ⟨by rw [HR.out]; rfl, HBL.out⟩
    obtain ⟨x, hx⟩ : ∃ x, L[k]? = some x := ⟨_, List.getElem?_eq_getElem (by rw [HN.out]; exact hlt)⟩
    obtain ⟨b, off, cs, rfl, ⟨t, rfl, htx⟩, _, hck⟩ := (HS.out.below ndR_mono hbel).get hx
    have HX := Lib.hid hx
    have HX20 : Hid (x.tk.length ≤ 20) := Lib.hid (HTK.out x (List.mem_of_getElem? hx))
    have c0 := hck 0 _ rfl
    have c1 := hck 1 _ rfl
    rw [Nat.add_zero] at c0
    obtain ⟨ta, tc, rfl, htc, htm, -⟩ := htx.1.shape
    have HTX := Lib.hid htx
    obtain ⟨m, hm⟩ : ∃ m, x.tk.length = m := ⟨_, rfl⟩
    rw [hm] at HTX htc c1
    have HM := Lib.hid hm
    clear hck hx htx hm
    go_upto_region 6 with (fail)
    obtain ⟨wA, hwA⟩ : ∃ wA, wA = wr.alloc (Obj.cells #[.string x.nm, .slice ta m tc] 25) := ⟨_, rfl⟩
    have hbox : wA.heap[wr.heap.size]? = some (.cells #[.string x.nm, .slice ta m tc] 25 (0, 0)) := by rw [hwA]; exact heap_alloc_new wr _
    have hbA : Below wr.heap.size wr wA := by rw [hwA]; exact (Below.refl _ _).alloc (Nat.le_refl _) _
    rw [← hwA]
    have HBA : Hid (Below w.heap.size w wA) := Lib.hid (HBL.out.trans (hbA.mono HBL.out.size))
    have HTA : Hid (Toks wA (.slice ta m tc) x.tk) := Lib.hid (HTX.out.below hbA)
    have hbxl : wr.heap.size < wA.heap.size := (Array.getElem?_eq_some_iff.1 hbox).1
    have HBX : Hid (∀ w4 : World, Below wA.heap.size wA w4 → w4.heap[wr.heap.size]? = some (.cells #[.string x.nm, .slice ta m tc] 25 (0, 0))) := Lib.hid (fun w4 h => (h.block _ hbxl).trans hbox)
    obtain ⟨⟨y0, y1⟩, -⟩ := bx2 hbox
    generalize wr.heap.size = bx at *
    clear hwA hbox hbA c0 c1 hbel hbxl
    go_wp2_with fail
    go_loopw [5, 6, 7, 27] (fun s mi ot i wr => ∃ (j : Nat) (M O : Bool) (S : Int), j ≤ m ∧ s = .int .u64 S ∧ mi = .bool M ∧ ot = .bool O ∧ i = .int .i64 j ∧ Hid (shR (pls L) (ow1 L) nm (pls (L.take k) ++ (plN x).take j) = (M, O, S)) ∧ Below wA.heap.size wA wr) (fun _ _ _ i _ => m - (intOf i).toNat)
    case atStart => exact ⟨0, M, O, S, Nat.zero_le _, rfl, rfl, rfl, rfl, Lib.hid (by rw [List.take_zero, List.append_nil]; exact HSR.out), Below.refl _ _⟩
    case round =>
      clear HSR y0 y1
      obtain ⟨j, M, O, S, hj, rfl, rfl, rfl, rfl, HSR, hbej⟩ := hrel
      have HBJ := Lib.hid hbej
      have HBW : Hid (Below w.heap.size w wr) := Lib.hid (HBA.out.trans (hbej.mono HBA.out.size))
      by_cases hlj : j < m
      case neg =>
        obtain rfl : j = m := by omega
        have hfull2 : (plN x).take j = plN x := List.take_of_length_le (by rw [plN_len, HM.out]; exact Nat.le_refl _)
        have HSN : Hid (shR (pls L) (ow1 L) nm (pls (L.take (k + 1))) = (M, O, S)) := Lib.hid (by rw [pls_take HX.out, ← hfull2]; exact HSR.out)
        clear hfull2
        go_wp2_with fail
        go_roundw
        case rel => exact ⟨k + 1, M, O, S, by omega, rfl, rfl, rfl, by go_num, HSN, HBW.out⟩
        case measure => simp [intOf]; omega
      have hz : x.tk[j]? = some (x.tk.getD j 0) := by
        have h1 : j < x.tk.length := by rw [HM.out]; exact hlj
        rw [List.getElem?_eq_getElem h1, List.getD_eq_getElem?_getD, List.getElem?_eq_getElem h1]
        rfl
      obtain ⟨tb, toff, rfl, z0⟩ := (HTA.out.below hbej).at (i := j) (by rw [HM.out]; exact hlj)
      obtain ⟨z, hzz⟩ : ∃ z, x.tk.getD j 0 = z := ⟨_, rfl⟩
      rw [hzz] at hz z0
      have hzm := List.mem_of_getElem? hz
      have hzw := HTW.out x (List.mem_of_getElem? HX.out) z hzm
      obtain ⟨nm0, ho1, -⟩ := owF_one HZ.out HTW.out (x := ⟨z, x.nm⟩) (mem_pls.2 ⟨x, List.mem_of_getElem? HX.out, hzm, rfl⟩)
      dsimp only at ho1
      have HOW : Hid (ow1 L z = nm0) := Lib.hid (by unfold ow1; rw [ho1]; rfl)
      have HO1 := Lib.hid ho1
      have HPT : Hid (shR (pls L) (ow1 L) nm (pls (L.take k) ++ (plN x).take (j + 1)) = shRS (pls L) (ow1 L) nm (M, O, S) ⟨z, x.nm⟩) := Lib.hid (by
        rw [plN_take hz, ← List.append_assoc, shR_snoc, HSR.out])
      clear hz hzz hzm ho1
      go_wp2_with fail
      refine (ownersof_any _ L z 1 _ (HS.out.below ndR_mono HBW.out) HZ.out hzw (by decide)).mono ?_
      rintro e w5 ⟨v5, rfl, hs5, hb5⟩
      rw [HO1.out] at hs5
      have HB5 : Hid (Below wA.heap.size wA w5) := Lib.hid (HBJ.out.trans (hb5.mono HBJ.out.size))
      obtain ⟨so, sc, rfl, -, -, -⟩ := Sl.shape hs5
      obtain ⟨sb, soff, rfl, s0⟩ := hs5.at (i := 0) (z := nm0) rfl
      rw [Nat.add_zero] at s0
      obtain ⟨⟨y0, y1⟩, -⟩ := bx2 (HBX.out w5 HB5.out)
      clear hs5 hb5 hbej
      by_cases hno : nm0.toList = nm.toList
      case neg =>
        have tn : (nm0.toList != nm.toList) = true := by simpa using hno
        have HSN : Hid (shR (pls L) (ow1 L) nm (pls (L.take k) ++ (plN x).take (j + 1)) = (M, true, S)) := Lib.hid (by
          rw [HPT.out, shRS_other (by rw [HOW.out]; exact fun e => hno (by rw [e]))])
        have tn2 : (nm0.toList == nm.toList) = false := beq_eq_false_iff_ne.2 hno
        clear hno
        go_wp2_with fail
        go_roundw
        case rel => exact ⟨j + 1, M, true, S, by omega, rfl, rfl, rfl, by go_num, HSN, HB5.out⟩
        case measure => simp [intOf]; omega
      have tn : (nm0.toList != nm.toList) = false := by simpa using hno
      have tn2 : (nm0.toList == nm.toList) = true := beq_iff_eq.2 hno
      have HNO : Hid (nm0 = nm) := Lib.hid (toList_inj hno)
      clear hno
      by_cases hnx : x.nm.toList = nm.toList
      case neg =>
        have tx : (x.nm.toList != nm.toList) = true := by simpa using hnx
        have tx2 : (x.nm.toList == nm.toList) = false := beq_eq_false_iff_ne.2 hnx
        have HSN : Hid (shR (pls L) (ow1 L) nm (pls (L.take k) ++ (plN x).take (j + 1)) = (M, O, S)) := Lib.hid (by
          rw [HPT.out, shRS_skip (by rw [HOW.out]; exact HNO.out) (fun e => hnx (by rw [show x.nm = nm from e]))])
        clear hnx
        go_wp2_with fail
        go_roundw
        case rel => exact ⟨j + 1, M, O, S, by omega, rfl, rfl, rfl, by go_num, HSN, HB5.out⟩
        case measure => simp [intOf]; omega
      have tx : (x.nm.toList != nm.toList) = false := by simpa using hnx
      have tx2 : (x.nm.toList == nm.toList) = true := beq_iff_eq.2 hnx
      have HSN : Hid (shR (pls L) (ow1 L) nm (pls (L.take k) ++ (plN x).take (j + 1)) = (true, O, (S + farF (pls L) z) % 18446744073709551616)) := Lib.hid (by
        rw [HPT.out, shRS_mine (by rw [HOW.out]; exact HNO.out) (toList_inj hnx)])
      clear hnx
      go_wp2_with fail
      go_loopw [12, 44] (fun f i wr => ∃ (k2 : Nat) (F : Int), k2 ≤ n ∧ f = .int .u64 F ∧ i = .int .i64 k2 ∧ Hid ((pls (L.take k2)).foldl (farS z) 0 = F) ∧ Below w5.heap.size w5 wr) (fun _ i _ => n - (intOf i).toNat)
      case atStart => exact ⟨0, 0, Nat.zero_le _, rfl, rfl, Lib.hid rfl, Below.refl _ _⟩
      case round =>
        clear y0 y1 s0
        obtain ⟨k2, F, hk2, rfl, rfl, HF, hbe2⟩ := hrel
        have HBF : Hid (Below wA.heap.size wA wr) := Lib.hid (HB5.out.trans (hbe2.mono HB5.out.size))
        have HB2 := Lib.hid hbe2
        by_cases hl2 : k2 < n
        case neg =>
          obtain rfl : k2 = n := by omega
          have hLk : L.take k2 = L := List.take_of_length_le (by rw [HN.out]; exact Nat.le_refl _)
          rw [hLk] at HF
          obtain ⟨S2, hS2⟩ : ∃ S2, (S + F) % 18446744073709551616 = S2 := ⟨_, rfl⟩
          have hsum : IntKind.u64.wrap (S + F) = S2 := by rw [IntKind.wrap_u64, ← hS2]
          have HSN2 : Hid (shR (pls L) (ow1 L) nm (pls (L.take k) ++ (plN x).take (j + 1)) = (true, O, S2)) := Lib.hid (by
            rw [HSN.out, ← hS2]
            unfold farF
            rw [HF.out])
          clear hS2
          go_wp2_with fail
          go_roundw
          case rel => exact ⟨j + 1, true, O, S2, by omega, by go_num, rfl, rfl, by go_num, HSN2, HBF.out⟩
          case measure => simp [intOf]; omega
        have HBW2 : Hid (Below w.heap.size w wr) := Lib.hid (HBA.out.trans (HBF.out.mono HBA.out.size))
        obtain ⟨y, hy⟩ : ∃ y, L[k2]? = some y := ⟨_, List.getElem?_eq_getElem (by rw [HN.out]; exact hl2)⟩
        obtain ⟨b3, off3, cs3, e3, ⟨t3, rfl, hty⟩, _, hck3⟩ := (HS.out.below ndR_mono HBW2.out).get hy
        injection e3 with e3
        injection e3 with e4 e5
        subst e4
        subst e5
        have HY := Lib.hid hy
        have HY20 : Hid (y.tk.length ≤ 20) := Lib.hid (HTK.out y (List.mem_of_getElem? hy))
        have c0 := hck3 0 _ rfl
        have c1 := hck3 1 _ rfl
        rw [Nat.add_zero] at c0
        obtain ⟨ya, yc, rfl, hyc, hym, -⟩ := hty.1.shape
        have HTY := Lib.hid hty
        obtain ⟨m2, hm2⟩ : ∃ m, y.tk.length = m := ⟨_, rfl⟩
        rw [hm2] at HTY hyc c1
        have HM2 := Lib.hid hm2
        clear hck3 hy hty hm2
        go_upto_region 17 with (fail)
        obtain ⟨wB, hwB⟩ : ∃ wB, wB = wr.alloc (Obj.cells #[.string y.nm, .slice ya m2 yc] 25) := ⟨_, rfl⟩
        have hbox : wB.heap[wr.heap.size]? = some (.cells #[.string y.nm, .slice ya m2 yc] 25 (0, 0)) := by rw [hwB]; exact heap_alloc_new wr _
        have hbB : Below wr.heap.size wr wB := by rw [hwB]; exact (Below.refl _ _).alloc (Nat.le_refl _) _
        rw [← hwB]
        have HBB : Hid (Below w5.heap.size w5 wB) := Lib.hid (HB2.out.trans (hbB.mono HB2.out.size))
        have HTB : Hid (Toks wB (.slice ya m2 yc) y.tk) := Lib.hid (HTY.out.below hbB)
        obtain ⟨⟨y0, y1⟩, -⟩ := bx2 hbox
        generalize wr.heap.size = by' at *
        clear hwB hbox hbB c0 c1 hbe2
        go_wp2_with fail
        go_loopw [12, 51] (fun f i wr => ∃ (j2 : Nat) (F : Int), j2 ≤ m2 ∧ f = .int .u64 F ∧ i = .int .i64 j2 ∧ Hid ((pls (L.take k2) ++ (plN y).take j2).foldl (farS z) 0 = F) ∧ wr = wB) (fun _ i _ => m2 - (intOf i).toNat)
        case atStart => exact ⟨0, F, Nat.zero_le _, rfl, rfl, Lib.hid (by rw [List.take_zero, List.append_nil]; exact HF.out), rfl⟩
        case round =>
          clear HF
          obtain ⟨j2, F, hj2, rfl, rfl, HF, hwe⟩ := hrel
          have hwe := hwe.symm
          subst hwe
          by_cases hlm : j2 < m2
          case neg =>
            obtain rfl : j2 = m2 := by omega
            have hfull2 : (plN y).take j2 = plN y := List.take_of_length_le (by rw [plN_len, HM2.out]; exact Nat.le_refl _)
            have HFN : Hid ((pls (L.take (k2 + 1))).foldl (farS z) 0 = F) := Lib.hid (by rw [pls_take HY.out, ← hfull2]; exact HF.out)
            clear hfull2
            go_wp2_with fail
            go_roundw
            case rel => exact ⟨k2 + 1, F, by omega, rfl, by go_num, HFN, HBB.out⟩
            case measure => simp [intOf]; omega
          have hu : y.tk[j2]? = some (y.tk.getD j2 0) := by
            have h1 : j2 < y.tk.length := by rw [HM2.out]; exact hlm
            rw [List.getElem?_eq_getElem h1, List.getD_eq_getElem?_getD, List.getElem?_eq_getElem h1]
            rfl
          obtain ⟨ub, uoff, rfl, u0⟩ := HTB.out.at (i := j2) (by rw [HM2.out]; exact hlm)
          obtain ⟨u, huu⟩ : ∃ u, y.tk.getD j2 0 = u := ⟨_, rfl⟩
          rw [huu] at hu u0
          obtain ⟨d, hd⟩ : ∃ d, distR u z = d := ⟨_, rfl⟩
          have hsub : IntKind.u64.wrap (z - u) = d := by rw [IntKind.wrap_u64, ← hd]; rfl
          obtain ⟨C, hC⟩ : ∃ C, farC F d = C := ⟨_, rfl⟩
          have HFN : Hid ((pls (L.take k2) ++ (plN y).take (j2 + 1)).foldl (farS z) 0 = if C then d else F) := Lib.hid (by
            rw [plN_take hu, ← List.append_assoc, far_snoc, HF.out, farC_is]
            dsimp only
            rw [hd, hC])
          have HC := Lib.hid hC
          clear hu huu hd hC
          go_upto_region 21 with (fail)
          go_cut [68] (fun t wx => t = .bool C ∧ wx = wB)
          case first =>
            by_cases h1 : 0 < d
            · by_cases h2 : F = 0
              · obtain rfl : C = true := by rw [← HC.out]; unfold farC; simp [h1, h2]
                subst h2
                go_wp2_with fail
                go_meet
                exact ⟨rfl, rfl⟩
              · have hF0 : (F == 0) = false := beq_eq_false_iff_ne.2 h2
                by_cases h3 : d < F
                · obtain rfl : C = true := by rw [← HC.out]; unfold farC; simp [h1, h3]
                  go_wp2_with fail
                  go_meet
                  exact ⟨rfl, rfl⟩
                · obtain rfl : C = false := by rw [← HC.out]; unfold farC; simp [h2, h3]
                  go_wp2_with fail
                  go_meet
                  exact ⟨rfl, rfl⟩
            · obtain rfl : C = false := by rw [← HC.out]; unfold farC; simp [h1]
              go_wp2_with fail
              go_meet
              exact ⟨rfl, rfl⟩
          obtain ⟨rfl, hwc⟩ := hcut
          have hwc := hwc.symm
          subst hwc
          cases C with
          | true =>
            go_wp2_with fail
            go_roundw
            case rel => exact ⟨j2 + 1, d, by omega, rfl, by go_num, HFN, by trivial⟩
            case measure => simp [intOf]; omega
          | false =>
            go_wp2_with fail
            go_roundw
            case rel => exact ⟨j2 + 1, F, by omega, rfl, by go_num, HFN, by trivial⟩
            case measure => simp [intOf]; omega
end Go.Proofs.Ytcljeedmiobepaa.Rng
