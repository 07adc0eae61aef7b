/-
  The walk of sketch.Check: a range over an iterator.
-/
import Derived.Test.YtmbmognhbljliaaChunk
import Derived.Test.YtmbmognhbljliaaSk1
import Derived.RangeFuncFrom
namespace Go.Proofs.Ytmbmognhbljliaa.Sk
open Go.RowKit Go.Shelf Go.Gh
set_option linter.unusedVariables false
attribute [local go_sem] Oper.semAt_some

set_option maxHeartbeats 4000000 in
set_option maxRecDepth 100000 in
theorem check_any (v : Value) (D W N : Int) (c : List Int) (w : World) (hv : SkV w v D W c N) :
    Calls Try.prog 61 #[v] w fun e w' => e = .returned (.int .i64 (skF D W c N)) ∧ Below w.heap.size w w' := by
  obtain ⟨cv, n, rfl, hs, hl, hwf, hn, hD, hW, hN⟩ := hv
  obtain ⟨ao, cap, rfl, hnc, hc, _⟩ := hs.shape
  have HL := Lib.hid hl
  have HWF := Lib.hid hwf
  refine (callsIn_wide (n := 9)).1 ?_
  refine callsIn_of_wp_marks Try.func61 rfl trivial ?_ rfl
  simp only [Try.ntmps61, List.size_toArray, List.length_cons, List.length_nil, Nat.reduceAdd, Nat.reduceSub, Array.replicate_succ, Array.replicate_zero, List.push_toArray, List.append_toArray, List.nil_append, List.cons_append]
  have hbB : ∀ z : Int, Below w.heap.size w ((w.alloc (Obj.cells #[.int .i64 D, .int .i64 W, .slice ao n cap, .int .i64 N] 66)).alloc (Obj.cells #[.int .i64 z] 24)) := fun z => ((Below.refl _ _).alloc (Nat.le_refl _) _).alloc (by simp) _
  by_cases hsz : sizeOk D W
  case neg =>
    have HF : Hid (skF D W c N = 4) := Lib.hid (sk_head fun h => hsz h.1)
    have HS : Hid (decide (sizeOk D W) = false) := decide_eq_false hsz
    clear hsz hl hwf
    gi_wp2_with (refine ⟨trivial, ?_⟩; gi_at_call 82; refine (callsIn_wide.2 (size_any D W _)).mono ?_; rw [HS.out]; rintro e w' ⟨rfl, rfl⟩)
    exact ⟨.int .i64 4, by simp [results, Try.results61, go_sem], ret_int HF.out.symm, hbB 4⟩
  have HS : Hid (decide (sizeOk D W) = true) := decide_eq_true hsz
  obtain ⟨h1, h2, h3, h4⟩ := hsz
  obtain ⟨d, rfl⟩ : ∃ d : Nat, D = d := ⟨D.toNat, by omega⟩
  obtain ⟨wd, rfl⟩ : ∃ d : Nat, W = d := ⟨W.toNat, by omega⟩
  have hd1 : 0 < d := by omega
  have hd2 : d ≤ 8 := by omega
  have hw1 : 0 < wd := by omega
  have hw2 : wd ≤ 200 := by omega
  obtain ⟨L, hL⟩ : ∃ L, d * wd = L := ⟨_, rfl⟩
  have hLi : (d : Int) * (wd : Int) = (L : Int) := by rw [← hL]; exact (Int.natCast_mul d wd).symm
  have hL2 : L ≤ 1600 := by rw [← hL]; exact Nat.mul_le_mul hd2 hw2
  have hn0 : 0 < L := by rw [← hL]; exact Nat.mul_pos hd1 hw1
  have HLE := Lib.hid hL
  clear hD hW
  by_cases hlen : n = L
  case neg =>
    have HF : Hid (skF d wd c N = 4) := Lib.hid (sk_head fun h => hlen (by
      have := h.2.1
      rw [hLi, hl] at this
      omega))
    have hne : ((n : Int) != (L : Int)) = true := by rw [bne_iff_ne]; omega
    clear hL hlen hl hwf h1 h2 h3 h4
    gi_wp2_with (refine ⟨trivial, ?_⟩; gi_at_call 82; refine (callsIn_wide.2 (size_any _ _ _)).mono ?_; rw [HS.out]; rintro e w' ⟨rfl, rfl⟩)
    exact ⟨.int .i64 4, by simp [results, Try.results61, go_sem], ret_int HF.out.symm, hbB 4⟩
  subst hlen
  by_cases hN1 : N < 0
  · have HF : Hid (skF d wd c N = 4) := Lib.hid (sk_head fun h => by have := h.2.2.1; omega)
    clear hL hl hwf h1 h2 h3 h4
    gi_wp2_with (refine ⟨trivial, ?_⟩; gi_at_call 82; refine (callsIn_wide.2 (size_any _ _ _)).mono ?_; rw [HS.out]; rintro e w' ⟨rfl, rfl⟩)
    exact ⟨.int .i64 4, by simp [results, Try.results61, go_sem], ret_int HF.out.symm, hbB 4⟩
  by_cases hN2 : 1152921504606846976 < N
  · have HF : Hid (skF d wd c N = 4) := Lib.hid (sk_head fun h => by have := h.2.2.2; omega)
    clear hL hl hwf h1 h2 h3 h4
    gi_wp2_with (refine ⟨trivial, ?_⟩; gi_at_call 82; refine (callsIn_wide.2 (size_any _ _ _)).mono ?_; rw [HS.out]; rintro e w' ⟨rfl, rfl⟩)
    exact ⟨.int .i64 4, by simp [results, Try.results61, go_sem], ret_int HF.out.symm, hbB 4⟩
  have HHEAD : Hid (headOk d wd c N) := Lib.hid ⟨⟨h1, h2, h3, h4⟩, by rw [hLi, hl], by omega, by omega⟩
  have hcl : c.length = d * wd := by rw [hl, hL]
  have HCL := Lib.hid hcl
  obtain ⟨b, off, rfl, _⟩ := hs.int (i := 0) hn0
  have e1 : decide (N < 0) = false := decide_eq_false hN1
  have e2 : decide (1152921504606846976 < N) = false := decide_eq_false hN2
  clear hL hl hwf hcl h1 h2 h3 h4
  gi_wp2_with (first
    | (refine ⟨trivial, ?_⟩; gi_at_call 82; refine (callsIn_wide.2 (size_any _ _ _)).mono ?_; rw [HS.out]; rintro e w' ⟨rfl, rfl⟩)
    | (refine ⟨trivial, ?_⟩; gi_at_call 84; refine (chunk_in _ _ _ _ wd hw1 _).mono ?_; rintro e w' ⟨rfl, rfl⟩))
  obtain ⟨W0, hW0⟩ : ∃ W0, W0 = ((((w.alloc (Obj.cells #[.int .i64 d, .int .i64 wd, .slice (some ⟨b, off, none⟩) n cap, .int .i64 N] 66)).alloc (Obj.cells #[.int .i64 0] 24)).alloc (Obj.cells #[.slice (some ⟨b, off, none⟩) n cap] 64)).alloc (Obj.cells #[.int .i64 wd] 3)) := ⟨_, rfl⟩
  have hsz0 : W0.heap.size = w.heap.size + 1 + 1 + 1 + 1 := by rw [hW0]; simp
  have hB0 : Below w.heap.size w W0 := by rw [hW0]; exact ((((Below.refl _ w).alloc (Nat.le_refl _) _).alloc (by simp) _).alloc (by simp; omega) _).alloc (by simp; omega) _
  have hblkA : W0.heap[w.heap.size]? = some (.cells #[.int .i64 d, .int .i64 wd, .slice (some ⟨b, off, none⟩) n cap, .int .i64 N] 66 (0, 0)) := by
    rw [hW0, Below.heap_alloc _ _ _ (by first | (simp; done) | (simp; omega)), Below.heap_alloc _ _ _ (by first | (simp; done) | (simp; omega))]
    exact two_first w _ _
  have hblkR : W0.heap[w.heap.size + 1]? = some (.cells #[.int .i64 0] 24 (0, 0)) := by
    rw [hW0, Below.heap_alloc _ _ _ (by first | (simp; done) | (simp; omega)), Below.heap_alloc _ _ _ (by first | (simp; done) | (simp; omega))]
    exact two_second w _ _
  have hblkS : W0.heap[w.heap.size + 1 + 1]? = some (.cells #[.slice (some ⟨b, off, none⟩) n cap] 64 (0, 0)) := by
    rw [hW0]
    have := two_first ((w.alloc (Obj.cells #[.int .i64 d, .int .i64 wd, .slice (some ⟨b, off, none⟩) n cap, .int .i64 N] 66)).alloc (Obj.cells #[.int .i64 0] 24)) (Obj.cells #[.slice (some ⟨b, off, none⟩) n cap] 64) (Obj.cells #[.int .i64 wd] 3)
    rwa [World.size_alloc, World.size_alloc] at this
  have hblkW : W0.heap[w.heap.size + 1 + 1 + 1]? = some (.cells #[.int .i64 wd] 3 (0, 0)) := by
    rw [hW0]
    have := two_second ((w.alloc (Obj.cells #[.int .i64 d, .int .i64 wd, .slice (some ⟨b, off, none⟩) n cap, .int .i64 N] 66)).alloc (Obj.cells #[.int .i64 0] 24)) (Obj.cells #[.slice (some ⟨b, off, none⟩) n cap] 64) (Obj.cells #[.int .i64 wd] 3)
    rwa [World.size_alloc, World.size_alloc] at this
  have a3 : W0.cell? ⟨w.heap.size, 3, none⟩ = some (.int .i64 N) := (row_cell 3 _ hblkA rfl).1
  have r0 : W0.cell? ⟨w.heap.size + 1, 0, none⟩ = some (.int .i64 0) := (row_cell 0 _ hblkR rfl).1
  have r1 : W0.frozen? ⟨w.heap.size + 1, 0, none⟩ = false := (row_cell 0 (.int .i64 0) hblkR rfl).2
  have s0 : W0.cell? ⟨w.heap.size + 1 + 1, 0, none⟩ = some (.slice (some ⟨b, off, none⟩) n cap) := (row_cell 0 _ hblkS rfl).1
  have s1 : W0.cell? ⟨w.heap.size + 1 + 1 + 1, 0, none⟩ = some (.int .i64 wd) := (row_cell 0 _ hblkW rfl).1
  rw [← hW0]
  clear hblkA hblkR hblkS hblkW hW0 hbB
  refine wpIn_rangeFunc_ownF rfl (by decide) (gf := 86) (lb := #[.pointer (some ⟨w.heap.size + 1 + 1, 0, none⟩), .pointer (some ⟨w.heap.size + 1 + 1 + 1, 0, none⟩)]) rfl trivial (enters_of Try.func86 (by kernel_rfl) rfl)
    (chunk_stops 8 (by decide) (w.heap.size + 1 + 1) (w.heap.size + 1 + 1 + 1) W0.heap.size b off d wd n cap hd1 hw1 HLE.out.symm hL2 hnc hc (by rw [hsz0]; omega) (by rw [hsz0]; omega) W0 (Nat.le_refl _) s0 s1) belowK_t (belowK_b (Nat.le_refl _)) (Below.refl _ _) (fun _ => rfl)
    (fun pre W => (Hid (∀ i ∈ pre, rowF N (chunkOf c wd (clampI d i)) = true) ∧ W.cell? ⟨w.heap.size, 3, none⟩ = some (.int .i64 N) ∧ W.cell? ⟨w.heap.size + 1, 0, none⟩ = some (.int .i64 0) ∧ W.frozen? ⟨w.heap.size + 1, 0, none⟩ = false) ∧ Below w.heap.size w W)
    (fun cd pre W => (cd = .ret ∧ Hid (skF d wd c N = 4) ∧ W.cell? ⟨w.heap.size + 1, 0, none⟩ = some (.int .i64 4)) ∧ Below w.heap.size w W)
    (OwnFrom.and (Own.from (fun s A B row hs hg hr => ⟨hs.1, cell_kept hs.2.1 hg hr, cell_kept hs.2.2.1 hg hr, (frozen_kept hs.2.2.1 hg hr).trans hs.2.2.2⟩) _) (ownFrom_below (Nat.le_refl _) (by rw [hsz0]; omega)))
    (fun cd => OwnFrom.and (Own.from (fun s A B row hs hg hr => ⟨hs.1, hs.2.1, cell_kept hs.2.2 hg hr⟩) _) (ownFrom_below (Nat.le_refl _) (by rw [hsz0]; omega)))
    ⟨⟨Lib.hid (by simp), a3, r0, r1⟩, hB0⟩
    (fun x => { tmps := #[.agg #[.int .i64 d, .int .i64 wd, .slice (some ⟨b, off, none⟩) n cap, .int .i64 N], .pointer (some ⟨w.heap.size, 0, none⟩), .pointer (some ⟨w.heap.size + 1, 0, none⟩), .slice (some ⟨b, off + clampI d x * wd, none⟩) wd wd, undef, undef, undef, .pointer (some ⟨w.heap.size, 0, none⟩), .int .i64 d, .pointer (some ⟨w.heap.size, 1, none⟩), .int .i64 wd, .bool true, .bool false, .bool false, .pointer (some ⟨w.heap.size, 2, none⟩), .slice (some ⟨b, off, none⟩) n cap, .int .i64 n, .pointer (some ⟨w.heap.size, 0, none⟩), .int .i64 d, .pointer (some ⟨w.heap.size, 1, none⟩), .int .i64 wd, .int .i64 n, .bool false, .bool false, .bool false, .pointer (some ⟨w.heap.size, 3, none⟩), .int .i64 N, .bool false, .bool false, .bool false, .pointer (some ⟨w.heap.size, 3, none⟩), .int .i64 N, .bool false, .bool false, .pointer (some ⟨w.heap.size, 2, none⟩), .slice (some ⟨b, off, none⟩) n cap, .pointer (some ⟨w.heap.size, 1, none⟩), .int .i64 wd, .func (.func 86) #[] #[.pointer (some ⟨w.heap.size + 1 + 1, 0, none⟩), .pointer (some ⟨w.heap.size + 1 + 1 + 1, 0, none⟩)], .slice (some ⟨b, off + clampI d x * wd, none⟩) wd wd, undef, undef, undef, undef, undef, undef, undef, undef, undef, undef, undef, undef, undef, undef, undef, undef, undef, undef, undef, undef, undef], defers := [] }) ?assign ?body ?done ?stop
  case assign =>
    intro l x W K hK
    gi_wp2
    exact hK
  case body =>
    rintro l pre x W ⟨⟨hp, ha3, hr0, hr1⟩, hB⟩ _
    have hkd : clampI d x < d := clamp_lt hd1 x
    generalize hkk : clampI d x = k at *
    obtain ⟨q, hq⟩ : ∃ q, k * wd = q := ⟨_, rfl⟩
    have hqe : q + wd ≤ n := by have := chunk_end (W := wd) hkd; rw [HLE.out] at this; omega
    rw [hq]
    have HQ := Lib.hid hq
    have HK := Lib.hid hkk
    have hs' := hs.below hB
    have HST : Hid (rowF N (chunkOf c wd k) = rowF N ((chunkOf c wd k).drop 0)) := Lib.hid (by rw [List.drop_zero])
    clear hq hkk
    gi_wp2
    gi_loopw [4, 44] (fun s i wx => ∃ (j : Nat) (left : Int), j ≤ wd ∧ i = .int .i64 j ∧ s = .int .i64 left ∧ 0 ≤ left ∧ left ≤ N ∧ wx = W ∧ Hid (rowF N (chunkOf c wd k) = rowF left ((chunkOf c wd k).drop j))) (fun _ i _ => wd - (intOf i).toNat)
    case atStart => exact ⟨0, N, by omega, rfl, rfl, by omega, by omega, rfl, HST⟩
    case round =>
      obtain ⟨j, left, hj, rfl, rfl, hs0, hs1, rfl, HR2⟩ := hrel
      by_cases hlt2 : j < wd
      · obtain ⟨b', off', hbo, hcx⟩ := hs'.int (i := q + j) (by omega)
        simp only [Option.some.injEq, Addr.mk.injEq, and_true] at hbo
        obtain ⟨rfl, rfl⟩ := hbo
        rw [← Nat.add_assoc] at hcx
        obtain ⟨x', hx⟩ : ∃ x, c.getD (q + j) 0 = x := ⟨_, rfl⟩
        rw [hx] at hcx
        have hdr : (chunkOf c wd k).drop j = x' :: (chunkOf c wd k).drop (j + 1) := by
          rw [drop_int (by rw [chunk_len HCL.out hkd]; exact hlt2), chunk_get HCL.out hkd hlt2, HQ.out, hx]
        have HD := Lib.hid hdr
        clear hdr hx
        by_cases hx0 : x' < 0
        · have HF : Hid (skF d wd c N = 4) := Lib.hid (sk_bad hkd (by rw [HR2.out, HD.out]; exact rowF_bad (Or.inl hx0)))
          gi_wp2
          first | exact ⟨KeepsOthers.setCell _ _ _, ⟨rfl, HF, World.cell?_setCell_same' _ _ _ (by rw [hr0]; rfl)⟩, hB.setCell (p := ⟨w.heap.size + 1, 0, none⟩) (by simp) _⟩ | exact ⟨KeepsOthers.setCell _ _ _, ⟨rfl, World.cell?_setCell_same' _ _ _ (by rw [hr0]; rfl)⟩, hB.setCell (p := ⟨w.heap.size + 1, 0, none⟩) (by simp) _⟩
        · by_cases hx1 : left < x'
          · have HF : Hid (skF d wd c N = 4) := Lib.hid (sk_bad hkd (by rw [HR2.out, HD.out]; exact rowF_bad (Or.inr hx1)))
            gi_wp2
            first | exact ⟨KeepsOthers.setCell _ _ _, ⟨rfl, HF, World.cell?_setCell_same' _ _ _ (by rw [hr0]; rfl)⟩, hB.setCell (p := ⟨w.heap.size + 1, 0, none⟩) (by simp) _⟩ | exact ⟨KeepsOthers.setCell _ _ _, ⟨rfl, World.cell?_setCell_same' _ _ _ (by rw [hr0]; rfl)⟩, hB.setCell (p := ⟨w.heap.size + 1, 0, none⟩) (by simp) _⟩
          · have HN : Hid (rowF N (chunkOf c wd k) = rowF (left - x') ((chunkOf c wd k).drop (j + 1))) := by
              show _ = _
              rw [HR2.out, HD.out, rowF_step (by omega) (by omega)]
            gi_wp2
            go_roundw
            case rel => exact ⟨j + 1, left - x', by omega, by go_num, rfl, by omega, by omega, by first | rfl | trivial, HN⟩
            case measure => simp [intOf]; omega
      · obtain rfl : j = wd := by omega
        have HE : Hid (rowF N (chunkOf c j k) = decide (left = 0)) := by
          show _ = _
          rw [HR2.out, List.drop_of_length_le (by rw [chunk_len HCL.out hkd]; exact Nat.le_refl _)]
          rfl
        by_cases hse : left = 0
        · have HN : Hid (∀ i ∈ pre ++ [x], rowF N (chunkOf c j (clampI d i)) = true) := Lib.hid (fun i hi => by
            rcases List.mem_append.1 hi with h | h
            · exact hp.out i h
            · simp at h
              rw [h, HK.out, HE.out]
              exact decide_eq_true hse)
          have hne : (left != 0) = false := by rw [hse]; rfl
          clear hse
          gi_wp2
          exact ⟨KeepsOthers.refl _, Below.refl _ _, ⟨HN, ha3, hr0, hr1⟩, hB⟩
        · have HF : Hid (skF d j c N = 4) := Lib.hid (sk_bad hkd (by rw [HE.out]; exact decide_eq_false hse))
          have hne : (left != 0) = true := by rw [bne_iff_ne]; exact hse
          clear hse
          gi_wp2
          first | exact ⟨KeepsOthers.setCell _ _ _, ⟨rfl, HF, World.cell?_setCell_same' _ _ _ (by rw [hr0]; rfl)⟩, hB.setCell (p := ⟨w.heap.size + 1, 0, none⟩) (by simp) _⟩ | exact ⟨KeepsOthers.setCell _ _ _, ⟨rfl, World.cell?_setCell_same' _ _ _ (by rw [hr0]; rfl)⟩, hB.setCell (p := ⟨w.heap.size + 1, 0, none⟩) (by simp) _⟩
  case done =>
    rintro D ys W hD rfl ⟨⟨hp, ha3, hr0, hr1⟩, hB⟩ hK
    have HF : Hid (skF d wd c N = 0) := Lib.hid (sk_ok HHEAD.out (fun i hi => by
      have := hp.out i (List.mem_range.2 hi)
      rwa [clamp_id hi] at this))
    gi_wp2
    have hK' := (KeepsOthers.setCell W ⟨w.heap.size + 1, 0, none⟩ (.int .i64 0)).same D _ hK rfl
    refine ⟨by simp, .inl ⟨_, _, rfl, run_takeDeferred hK', ?_⟩⟩
    have hc5 := cell_kept (World.cell?_setCell_same' W ⟨w.heap.size + 1, 0, none⟩ (.int .i64 0) (by rw [hr0]; rfl)) (grownBy_putObj' _ D (.deferred none)) (fun r e => by cases e; exact ⟨_, hK', rfl⟩)
    refine ⟨.int .i64 0, ?_, ret_int HF.out.symm, (hB.setCell (p := ⟨w.heap.size + 1, 0, none⟩) (by simp) _).trans (belowK_b (w := w) (Nat.le_refl _) _ D _ _ (by rw [hsz0] at hD; omega) hK' rfl rfl)⟩
    simp [results, Try.results61, go_sem, hc5]
  case stop =>
    rintro D cd pre W hD _ ⟨⟨rfl, HF, hcr⟩, hB⟩ hK
    gi_wp2
    refine ⟨by simp, .inl ⟨_, _, rfl, run_takeDeferred hK, ?_⟩⟩
    have hc5 := cell_kept hcr (grownBy_putObj' _ D (.deferred none)) (fun r e => by cases e; exact ⟨_, hK, rfl⟩)
    refine ⟨.int .i64 4, ?_, ret_int HF.out.symm, hB.trans (belowK_b (w := w) (Nat.le_refl _) W D _ _ (by rw [hsz0] at hD; omega) hK rfl rfl)⟩
    simp [results, Try.results61, go_sem, hc5]
end Go.Proofs.Ytmbmognhbljliaa.Sk
