/-
  Acts that are handed in: how they read.
-/
import Derived.Test.YtckpabminhkndaaDisk4
namespace Go.Proofs.Ytckpabminhkndaa.Disk
open Go.RowKit Go.Gh Go.WideShapes Go.ChangeShapes Go.ChangeAt Go.Deep Go.Proofs.Ytckpabminhkndaa.Bits Go.Proofs.Ytckpabminhkndaa.Log
set_option linter.unusedVariables false
section
variable {H : Type} {enc : TypeId × Value → H} {P : Program} {W : World} {base : Nat} {spare : Nat → Bool} {held : Bool}
/-- A slice of integers that came in, without its weights. -/
theorem sl_ints0 {t e : TypeId} {k : IntKind} {fuel : Nat} {v : Value} {x : DataW H × List MemPlace} (ht : P.underlying t = some (.slice e)) (he : P.underlying e = some (.int k)) (hc : P.cellsOf e = 1)
    (h : DataW.trod enc P W base spare held fuel t [v] = some x) : ∃ (n : Nat) (zs : List Int), Sl W 1 v n (zs.map (Value.int k)) ∧ (∀ z ∈ zs, (Lit.int k z).wf = true) := by
  rcases open_ints ht he hc h with ⟨hcs, _⟩ | ⟨a, len, cap, zs, hcs, _, hl, hm, hz, hx, hcell, hwz⟩
  · obtain rfl : v = .slice none 0 0 := by simpa using hcs
    exact ⟨0, [], ⟨none, 0, rfl, Nat.le_refl _, Nat.zero_le _, fun _ => rfl, by simp, fun h => absurd h (Nat.lt_irrefl _)⟩, by simp⟩
  · obtain rfl : v = .slice (some a) len cap := by simpa using hcs
    have hlz : len ≤ zs.length := by rw [hz]; split <;> omega
    refine ⟨len, zs.take len, ⟨some a, cap, rfl, hl, hm, fun h => by simp at h, by simp; omega, fun hn => ?_⟩, fun z hz' => hwz z (List.mem_of_mem_take hz')⟩
    have h0 := hcell 0 (by omega)
    obtain ⟨b, off, spot⟩ := a
    have hs := World.cell?_spot h0
    simp [Addr.add] at hs
    subst hs
    refine ⟨b, off, rfl, fun i u hu => ?_⟩
    have hi : i < len := by
      rcases Nat.lt_or_ge i len with h' | h'
      · exact h'
      · rw [List.getElem?_eq_none (by simp; omega)] at hu; simp at hu
    have := hcell i (by omega)
    rw [addr_add] at this
    rw [this]
    have hi' : i < zs.length := by omega
    simp [List.getElem?_map, hi, List.getElem?_eq_getElem hi'] at hu
    rw [← hu, List.getD_eq_getElem?_getD, List.getElem?_eq_getElem hi']
    rfl
end
/-- An act lies at the cell o of the block b. -/
def ActAt (w : World) (b o : Nat) (k kp : Int) (rv : Value) (r : List Int) (lv : Value) (x y : Int) : Prop :=
  (w.cell? ⟨b, o, none⟩ = some (.int .i64 k) ∧ w.cell? ⟨b, o + 1, none⟩ = some (.int .i64 kp) ∧ w.cell? ⟨b, o + 2, none⟩ = some rv ∧ w.cell? ⟨b, o + 3, none⟩ = some lv ∧ w.cell? ⟨b, o + 4, none⟩ = some (.int .i64 x) ∧ w.cell? ⟨b, o + 5, none⟩ = some (.int .i64 y)) ∧
  (∃ lo ln lc, lv = .slice lo ln lc) ∧ (-9223372036854775808 ≤ kp ∧ kp < 9223372036854775808) ∧ Sl w 1 rv r.length (r.map (Value.int .u8)) ∧ BytesL r
def IsActs (w : World) (v : Value) : Prop :=
  ∃ (ao : Option Addr) (n c : Nat), v = .slice ao n c ∧ n ≤ c ∧ c ≤ 9223372036854775807 ∧ ∀ i, i < n → ∃ b off k kp rv r lv x y, ao = some ⟨b, off, none⟩ ∧ ActAt w b (off + i * 6) k kp rv r lv x y
theorem ActAt.below {w w' : World} {b o : Nat} {k kp x y : Int} {rv lv : Value} {r : List Int} (h : ActAt w b o k kp rv r lv x y) (hb : Below w.heap.size w w') : ActAt w' b o k kp rv r lv x y := by
  obtain ⟨⟨h0, h1, h2, h3, h4, h5⟩, h6, h7, h8, h9⟩ := h
  have hlt := cell_lt h0
  exact ⟨⟨(hb.cell (p := ⟨b, o, none⟩) hlt).trans h0, (hb.cell (p := ⟨b, o + 1, none⟩) hlt).trans h1, (hb.cell (p := ⟨b, o + 2, none⟩) hlt).trans h2, (hb.cell (p := ⟨b, o + 3, none⟩) hlt).trans h3, (hb.cell (p := ⟨b, o + 4, none⟩) hlt).trans h4, (hb.cell (p := ⟨b, o + 5, none⟩) hlt).trans h5⟩, h6, h7, h8.below hb, h9⟩
section
variable {H : Type} {enc : TypeId × Value → H} {W : World} {base b0 : Nat} {r : Reach} {spare : Nat → Bool} {held : Bool} {v : Value} {d : DataW H} {ps : List MemPlace}
set_option maxRecDepth 100000 in
theorem cellsAct : Try.prog.cellsOf 52 = 6 := by kernel_rfl
theorem cells1 : Try.prog.cellsOf 3 = 1 ∧ Try.prog.cellsOf 23 = 1 ∧ Try.prog.cellsOf 5 = 1 ∧ Try.prog.cellsOf 48 = 1 ∧ Try.prog.cellsOf 50 = 2 ∧ Try.prog.cellsOf 2 = 1 := ⟨by kernel_rfl, by kernel_rfl, by kernel_rfl, by kernel_rfl, by kernel_rfl, by kernel_rfl⟩
set_option maxRecDepth 100000 in
theorem isActs_of (hv : Value.okWide Try.prog W r b0 42 v) (hd : DataW.Trod enc Try.prog W base spare held 42 v d ps) (hs : ∀ n ∈ d.weights Try.prog 42, n ≤ reachBytes) : IsActs W v := by
  obtain ⟨a0, l0, c0, rfl⟩ := okWide_slice Try.underlying42 hv
  obtain ⟨fuel, hf⟩ := hd
  rcases open_slice Try.underlying42 hf with ⟨hcs, _⟩ | ⟨a, len, cap, m, n, D, Pl, hcs, hb, hl, hm, hmm, hx, hi'⟩
  · have hcs' : Value.slice a0 l0 c0 = .slice none 0 0 := by simpa [Value.cells] using hcs
    rw [hcs']
    exact ⟨none, 0, 0, rfl, Nat.le_refl _, by decide, fun i hi => absurd hi (Nat.not_lt_zero i)⟩
  · have hcs' : Value.slice a0 l0 c0 = .slice (some a) len cap := by simpa [Value.cells] using hcs
    rw [hcs']
    have hlm : len ≤ m := by rw [hmm]; split <;> omega
    refine ⟨some a, len, cap, rfl, hl, hm, fun i hlt => ?_⟩
    have hab : ∃ b off, a = ⟨b, off, none⟩ := by
      obtain ⟨cs0, hc0, _⟩ := hi' 0 (by omega)
      rw [cellsAct] at hc0
      obtain ⟨_, hcl0, hat0⟩ := World.cells?_some hc0
      have h0 := hat0 0 (by decide)
      rw [List.getElem?_eq_getElem (by rw [hcl0]; decide)] at h0
      obtain ⟨b, off, spot⟩ := a
      have hs := World.cell?_spot h0
      simp [Addr.add] at hs
      subst hs
      exact ⟨b, off, rfl⟩
    obtain ⟨cs', hc, ht'⟩ := hi' i (by omega)
    rw [cellsAct] at hc
    obtain ⟨xs, n', _, _, hlen, hxl, hfl⟩ := DataW.trod_struct Try.underlying52 ht'
    obtain ⟨_, hcl, hat⟩ := World.cells?_some hc
    obtain ⟨k1, k2, k3, k4, k5, k6⟩ := cells1
    match cs', hcl with
    | [c0, c1, c2, c3, c4, c5], _ =>
      have f0 : DataW.trod enc Try.prog W base spare held n' 3 (([c0, c1, c2, c3, c4, c5].drop 0).take (Try.prog.cellsOf 3)) = xs[0]? := hfl 0 _ rfl
      have f1 : DataW.trod enc Try.prog W base spare held n' 3 (([c0, c1, c2, c3, c4, c5].drop 1).take (Try.prog.cellsOf 3)) = xs[1]? := hfl 1 _ rfl
      have f2 : DataW.trod enc Try.prog W base spare held n' 23 (([c0, c1, c2, c3, c4, c5].drop 2).take (Try.prog.cellsOf 23)) = xs[2]? := hfl 2 _ rfl
      have f3 : DataW.trod enc Try.prog W base spare held n' 48 (([c0, c1, c2, c3, c4, c5].drop 3).take (Try.prog.cellsOf 48)) = xs[3]? := hfl 3 _ rfl
      have f4 : DataW.trod enc Try.prog W base spare held n' 50 (([c0, c1, c2, c3, c4, c5].drop 4).take (Try.prog.cellsOf 50)) = xs[4]? := hfl 4 _ rfl
      rw [k1] at f0 f1
      rw [k2] at f2
      rw [k4] at f3
      rw [k5] at f4
      simp only [List.drop, List.take] at f0 f1 f2 f3 f4
      have hxs : xs.length = 5 := hxl
      rw [List.getElem?_eq_getElem (by rw [hxs]; decide)] at f0 f1 f2 f3 f4
      obtain ⟨z0, e0, _, _⟩ := DataW.trod_int Try.underlying3 f0
      obtain ⟨z1, e1, _, w1⟩ := DataW.trod_int Try.underlying3 f1
      obtain ⟨rn, rl, hs, hw⟩ := sl_ints0 Try.underlying23 Try.underlying5 k3 f2
      obtain ⟨ys, n2, _, _, _, hyl, hfy⟩ := DataW.trod_struct Try.underlying50 f4
      have g0 : DataW.trod enc Try.prog W base spare held n2 2 (([c4, c5].drop 0).take (Try.prog.cellsOf 2)) = ys[0]? := hfy 0 _ rfl
      have g1 : DataW.trod enc Try.prog W base spare held n2 2 (([c4, c5].drop 1).take (Try.prog.cellsOf 2)) = ys[1]? := hfy 1 _ rfl
      rw [k6] at g0 g1
      simp only [List.drop, List.take] at g0 g1
      have hys : ys.length = 2 := hyl
      rw [List.getElem?_eq_getElem (by rw [hys]; decide)] at g0 g1
      obtain ⟨z4, e4, _, _⟩ := DataW.trod_int Try.underlying2 g0
      obtain ⟨z5, e5, _, _⟩ := DataW.trod_int Try.underlying2 g1
      have hlv : ∃ lo ln lc, c3 = .slice lo ln lc := by
        rcases DataW.trod_slice Try.underlying48 f3 with ⟨h, _⟩ | ⟨a, len, cap, _, _, _, _, h, _⟩
        · exact ⟨_, _, _, by simpa using h⟩
        · exact ⟨_, _, _, by simpa using h⟩
      obtain rfl : c0 = .int .i64 z0 := by simpa using e0
      obtain rfl : c1 = .int .i64 z1 := by simpa using e1
      obtain rfl : c4 = .int .i64 z4 := by simpa using e4
      obtain rfl : c5 = .int .i64 z5 := by simpa using e5
      obtain ⟨b, off, rfl⟩ := hab
      have at0 := hat 0 (by decide)
      have at1 := hat 1 (by decide)
      have at2 := hat 2 (by decide)
      have at3 := hat 3 (by decide)
      have at4 := hat 4 (by decide)
      have at5 := hat 5 (by decide)
      rw [addr_add, addr_add] at at0 at1 at2 at3 at4 at5
      have hll : rl.length = rn := by
        obtain ⟨_, _, _, _, _, h⟩ := hs.shape
        simpa using h
      subst hll
      exact ⟨b, off, z0, z1, c2, rl, c3, z4, z5, rfl, ⟨at0, at1, at2, at3, at4, at5⟩, hlv, wf_i64 w1, hs, Go.Proofs.Ytckpabminhkndaa.LogTells.bytes_wfL hw⟩
end
end Go.Proofs.Ytckpabminhkndaa.Disk
