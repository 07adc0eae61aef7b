/-
  What the bound on the bulk of the arguments gives, and arguments opened under it.
-/
import Derived.Test.YtlfhcjhbnakamaaGreatDoorXg1
import Derived.Test.YtlfhcjhbnakamaaGreatDoorXg3
import Derived.Test.YtlfhcjhbnakamaaGreatDoorXg7
import Derived.Test.YtlfhcjhbnakamaaGreatDoorXg9
import Derived.Test.YtlfhcjhbnakamaaGreatDoorXg10
import Derived.Test.YtlfhcjhbnakamaaGreatDoorRows
import Derived.JoinedCond
import Derived.Lib.SmallJoins
import Derived.ProofKit
import Derived.OpenShut
import Derived.Lib.LaidTab
import Derived.LaidLaws
import Derived.Test.YtlfhcjhbnakamaaGreatDoorCards
import Derived.Test.YtlfhcjhbnakamaaGreatDoorTie
import Derived.Deep.DeepHandedRow
namespace Go.Gh
open Go.RowKit Go.ChangeShapes Go.WideShapes Go.ChangeAt Go.Joins Go.Proofs.YtlfhcjhbnakamaaGreatDoor
set_option linter.unusedVariables false

theorem bulk_one {H : Type} (d : DataW H) : 1 ≤ Rows.uptoBulk d := by
  cases d with
  | lit l => cases l <;> simp [Rows.uptoBulk]
  | nil => simp [Rows.uptoBulk]
  | ptr d => simp [Rows.uptoBulk]
  | slice elems spare => simp [Rows.uptoBulk]
  | agg parts => simp [Rows.uptoBulk]
  | iface t d => simp [Rows.uptoBulk]
  | map entries => simp [Rows.uptoBulk]
  | held h => simp [Rows.uptoBulk]
theorem bulk_part {H : Type} {d : DataW H} {l : List (DataW H)} (h : d ∈ l) : Rows.uptoBulk d ≤ Rows.uptoBulkAll l := by
  induction l with
  | nil => cases h
  | cons x r ih =>
    simp only [Rows.uptoBulkAll]
    cases List.mem_cons.1 h with
    | inl e => subst e; omega
    | inr e => have := ih e; omega
theorem bulk_len {H : Type} (l : List (DataW H)) : l.length ≤ Rows.uptoBulkAll l := by
  induction l with
  | nil => simp [Rows.uptoBulkAll]
  | cons x r ih => have := bulk_one x; simp only [Rows.uptoBulkAll, List.length_cons]; omega
theorem bulk_at {H : Type} {l : List (DataW H)} (hk : Rows.uptoSmall H l = true) {d : DataW H} (h : d ∈ l) : Rows.uptoBulk d ≤ 1048576 := by
  have h1 : Rows.uptoBulkAll l ≤ 1048576 := of_decide_eq_true hk
  exact Nat.le_trans (bulk_part h) h1

section
variable {H : Type} {enc : TypeId × Value → H} {P : Program} {W : World} {base b0 : Nat} {r : Reach} {spare : Nat → Bool} {held : Bool} {t e : TypeId} {k : IntKind} {v : Value} {d : DataW H} {ps : List MemPlace}
/-- A slice of integers that came in, as 'Sl', and its reading. -/
theorem sl_ints_b {fuel : Nat} {x : DataW H × List MemPlace} (ht : P.underlying t = some (.slice e)) (he : P.underlying e = some (.int k)) (hc : P.cellsOf e = 1)
    (h : DataW.trod enc P W base spare held fuel t [v] = some x) (hb : Rows.uptoBulk x.1 ≤ 1048576) :
    ∃ (n : Nat) (zs : List Int), Sl W 1 v n (zs.map (Value.int k)) ∧ (∀ z ∈ zs, (Lit.int k z).wf = true) ∧ n ≤ 1048576 := by
  rcases open_ints ht he hc h with ⟨hcs, _⟩ | ⟨a, len, cap, zs, hcs, _, hl, hm, hz, hx, hcell, hwz⟩
  · obtain rfl : v = .slice none 0 0 := by simpa using hcs
    exact ⟨0, [], ⟨none, 0, rfl, Nat.le_refl _, Nat.zero_le _, fun _ => rfl, by simp, fun h => absurd h (Nat.lt_irrefl _)⟩, by simp, by simp⟩
  · obtain rfl : v = .slice (some a) len cap := by simpa using hcs
    have hlz : len ≤ zs.length := by rw [hz]; split <;> omega
    refine ⟨len, zs.take len, ⟨some a, cap, rfl, hl, hm, fun h => by simp at h, by simp; omega, fun hn => ?_⟩, fun z hz' => hwz z (List.mem_of_mem_take hz'), ?_⟩
    · have h0 := hcell 0 (by omega)
      obtain ⟨b, off, spot⟩ := a
      have hs := World.cell?_spot h0
      simp [Addr.add] at hs
      subst hs
      refine ⟨b, off, rfl, fun i u hu => ?_⟩
      have hi : i < len := by
        rcases Nat.lt_or_ge i len with h' | h'
        · exact h'
        · rw [List.getElem?_eq_none (by simp; omega)] at hu; simp at hu
      have := hcell i (by omega)
      rw [addr_add] at this
      rw [this]
      have hi' : i < zs.length := by omega
      simp [List.getElem?_map, hi, List.getElem?_eq_getElem hi'] at hu
      rw [← hu, List.getD_eq_getElem?_getD, List.getElem?_eq_getElem hi']
      rfl
    · rw [hx] at hb
      simp only [Rows.uptoBulk] at hb
      have h1 := bulk_len (lits (H := H) k (zs.take len))
      simp [lits] at h1 hb
      omega
theorem isIntB_of (ht : P.underlying t = some (.int k)) (hv : Value.okWide P W r b0 t v) (hd : DataW.Trod enc P W base spare held t v d ps) (hb : Rows.uptoBulk d ≤ 1048576) : IsInt k W v := by
  obtain ⟨n, h1, _, _, h2⟩ := open_int ht hv hd
  exact ⟨n, h1, h2⟩
end
end Go.Gh
/-
  Slices of whatever elements that came in, under the bound on the bulk.
-/
namespace Go.Gh
open Go.RowKit Go.ChangeShapes Go.WideShapes Go.ChangeAt Go.Joins Go.Deep Go.Proofs.YtlfhcjhbnakamaaGreatDoor
set_option linter.unusedVariables false
section
variable {α : Type} {H : Type} {enc : TypeId × Value → H} {P : Program} {W : World} {base : Nat} {spare : Nat → Bool} {held : Bool} {R : World → α → List Value → Prop}
theorem sp_ofB {t e : TypeId} {k fuel M : Nat} {v : Value} {x : DataW H × List MemPlace} (inh : Inhabited α) (ht : P.underlying t = some (.slice e)) (hk : P.cellsOf e = k) (hpos : 0 < k)
    (hel : ∀ fuel cs x, DataW.trod enc P W base spare held fuel e cs = some x → cs.length = k → Rows.uptoBulk x.1 ≤ M → ∃ a, R W a cs)
    (h : DataW.trod enc P W base spare held fuel t [v] = some x) (hbk : Rows.uptoBulk x.1 ≤ M) : ∃ L : List α, Sp R k W v L ∧ L.length ≤ M := by
  rcases open_slice ht h with ⟨hcs, _⟩ | ⟨a, len, cap, m, n, D, Pl, hcs, hb, hl, hm, hmm, hx, hi'⟩
  · obtain rfl : v = .slice none 0 0 := by simpa using hcs
    exact ⟨[], Sp.nil, Nat.zero_le _⟩
  · obtain rfl : v = .slice (some a) len cap := by simpa using hcs
    have hlm : len ≤ m := by rw [hmm]; split <;> omega
    rw [hx] at hbk
    simp only [Rows.uptoBulk] at hbk
    have hlen : len ≤ M := by
      have := bulk_len ((List.range len).map D)
      rw [List.length_map, List.length_range] at this
      omega
    have each : ∀ i, i < len → ∃ p : α × List Value, p.2.length = k ∧ R W p.1 p.2 ∧ ∀ j u, p.2[j]? = some u → W.cell? (a.add (i * k + j)) = some u := by
      intro i hlt
      obtain ⟨cs', hc, ht'⟩ := hi' i (by omega)
      rw [hk] at hc
      obtain ⟨_, hcl, hat⟩ := World.cells?_some hc
      have hbi : Rows.uptoBulk (D i) ≤ M := by
        have h1 : D i ∈ (List.range len).map D := List.mem_map.2 ⟨i, by simpa using hlt, rfl⟩
        have := bulk_part h1
        omega
      obtain ⟨y, hy⟩ := hel _ _ _ ht' hcl hbi
      refine ⟨(y, cs'), hcl, hy, fun j u hu => ?_⟩
      have hj : j < k := by
        have h9 : j < cs'.length := (List.getElem?_eq_some_iff.1 hu).1
        have h10 : cs'.length = k := hcl
        omega
      have h2 := hat j hj
      rw [add_add] at h2
      rw [h2]
      exact hu
    haveI : Inhabited (α × List Value) := ⟨(inh.default, [])⟩
    obtain ⟨Q, hQ⟩ := choose_lt each
    have hL : ((List.range len).map Q).length = len := by simp
    have hPK : PK k ((List.range len).map Q) := by
      intro p hp
      obtain ⟨i, hi, rfl⟩ := List.mem_map.1 hp
      exact (hQ i (by simpa using hi)).1
    refine ⟨((List.range len).map Q).map (·.1), ⟨(List.range len).map Q, rfl, hPK, ?_, some a, cap, ?_, ?_, hm, fun h => by simp at h, ?_, fun hn => ?_⟩, ?_⟩
    · intro p hp
      obtain ⟨i, hi, rfl⟩ := List.mem_map.1 hp
      exact (hQ i (by simpa using hi)).2.1
    · rw [List.length_map, hL]
    · rw [List.length_map, hL]; exact hl
    · rw [pc_len hPK, List.length_map, List.length_map, List.length_map]
    · rw [List.length_map, hL] at hn
      obtain ⟨u0, hu0⟩ : ∃ u, (Q 0).2[0]? = some u := ⟨_, List.getElem?_eq_getElem (by rw [(hQ 0 hn).1]; exact hpos)⟩
      have h0 := (hQ 0 hn).2.2 0 u0 hu0
      obtain ⟨b, off, spot⟩ := a
      have hs := World.cell?_spot h0
      simp [Addr.add] at hs
      subst hs
      refine ⟨b, off, rfl, fun i u hu => ?_⟩
      have hidx : i < len * k := by
        rcases Nat.lt_or_ge i (len * k) with h' | h'
        · exact h'
        · rw [List.getElem?_eq_none (by rw [pc_len hPK, hL]; exact h')] at hu; simp at hu
      have hq : i / k < len := Nat.div_lt_of_lt_mul (by rw [Nat.mul_comm]; exact hidx)
      have hr : i % k < k := Nat.mod_lt _ hpos
      have hdm : i / k * k + i % k = i := by rw [Nat.mul_comm]; exact Nat.div_add_mod i k
      have hp : ((List.range len).map Q)[i / k]? = some (Q (i / k)) := by simp [hq]
      rw [← hdm, pc_get hPK hp hr] at hu
      have := (hQ (i / k) hq).2.2 (i % k) u hu
      rw [addr_add, hdm] at this
      exact this
    · rw [List.length_map, hL]; exact hlen
/-- The bulk of a struct's part. -/
theorem bulk_field {xs : List (DataW H × List MemPlace)} {y : DataW H × List MemPlace} {i M : Nat} (h : Rows.uptoBulk (DataW.agg (xs.map (·.1))) ≤ M) (hy : xs[i]? = some y) : Rows.uptoBulk y.1 ≤ M := by
  simp only [Rows.uptoBulk] at h
  have h1 : y.1 ∈ xs.map (·.1) := List.mem_map.2 ⟨y, List.mem_of_getElem? hy, rfl⟩
  have := bulk_part h1
  omega
end
end Go.Gh
/-
  Labels, matches and texts that came in, under the bound on the bulk; the table of signs as the row's list lays it.
-/
namespace Go.Proofs.YtlfhcjhbnakamaaGreatDoor.Lab
open Go.RowKit Go.Gh Go.WideShapes Go.ChangeShapes Go.ChangeAt Go.Deep Go.Joins
set_option linter.unusedVariables false
set_option linter.unusedSimpArgs false
set_option maxRecDepth 100000
def IsLbs (w : World) (v : Value) : Prop := ∃ L : List Lb, Sp LbR 2 w v L
def IsMts (w : World) (v : Value) : Prop := ∃ L : List Mt, Sp MtR 3 w v L
def IsTx (v : Value) : Prop := ∃ l : By, v = .string (mkS l) ∧ l.length ≤ 1048576
theorem gSig : Tryz.prog.globalNamed "gaugehouse/label.signs" = some 0 := by kernel_rfl
theorem gSigType : (Tryz.prog.globals[0]?).map (·.type) = some 94 := by kernel_rfl
theorem cellsSig : Tryz.prog.cellsOf 94 = 5 := by kernel_rfl
theorem cellsStr : Tryz.prog.cellsOf 9 = 1 := by kernel_rfl
theorem cellsInt : Tryz.prog.cellsOf 3 = 1 := by kernel_rfl
theorem cellsLb : Tryz.prog.cellsOf 72 = 2 := by kernel_rfl
theorem cellsMt : Tryz.prog.cellsOf 70 = 3 := by kernel_rfl
section
variable {H : Type} {enc : TypeId × Value → H} {W : World} {base b0 : Nat} {r : Reach} {spare : Nat → Bool} {held : Bool} {v : Value} {d : DataW H} {ps : List MemPlace}
theorem str_cell {fuel : Nat} {c : Value} {x : DataW H × List MemPlace} {l : By} (h : DataW.trod enc Tryz.prog W base spare held fuel 9 [c] = some x) (hx : x.1 = .lit (.string l)) : c = .string (mkS l) := by
  obtain ⟨s, e, rfl, _⟩ := DataW.trod_string Tryz.underlying9 h
  simp only [DataW.lit.injEq, Lit.string.injEq] at hx
  have e' : c = .string s := by simpa using e
  rw [e', of_mkS s, hx]
theorem stab_of_laid {W : World} {rest : List (String × DataW Unit)} (h : laidMet Tryz.prog (("gaugehouse/label.signs", Rows.laid_gaugehouse_label_signs) :: rest) W) : STab W := by
  obtain ⟨ps, ⟨g, t, cs, fuel, p, q, hg, ht, hvar, hd, _, _⟩, _⟩ := h
  obtain rfl := Option.some.inj (gSig.symm.trans hg)
  obtain rfl := Option.some.inj (gSigType.symm.trans ht)
  obtain ⟨xs, m, rfl, hx, hlen, hn, hel⟩ := DataW.trod_array Tryz.underlying94 hd
  obtain ⟨l⟩ := cs
  rw [cellsSig] at hlen
  rw [cellsStr] at hel
  simp only [Prod.mk.injEq] at hx
  have hx1 := hx.1
  simp only [Rows.laid_gaugehouse_label_signs, DataW.agg.injEq] at hx1
  match xs, hn, hx1 with
  | [x0, x1, x2, x3, x4], _, hx1 =>
    simp only [List.map_cons, List.map_nil, List.cons.injEq, and_true] at hx1
    obtain ⟨e0, e1, e2, e3, e4⟩ := hx1
    match l, hlen with
    | [c0, c1, c2, c3, c4], _ =>
      have r0 := str_cell (hel 0 (by decide)) e0.symm
      have r1 := str_cell (hel 1 (by decide)) e1.symm
      have r2 := str_cell (hel 2 (by decide)) e2.symm
      have r3 := str_cell (hel 3 (by decide)) e3.symm
      have r4 := str_cell (hel 4 (by decide)) e4.symm
      subst r0 r1 r2 r3 r4
      intro k hk
      have c := World.var?_cell hg hvar k
      have : k = 0 ∨ k = 1 ∨ k = 2 ∨ k = 3 ∨ k = 4 := by omega
      rcases this with rfl | rfl | rfl | rfl | rfl <;> exact c
theorem str_len {fuel : Nat} {c : Value} {x : DataW H × List MemPlace} (h : DataW.trod enc Tryz.prog W base spare held fuel 9 [c] = some x) (hb : Rows.uptoBulk x.1 ≤ 1048576) : ∃ l : By, c = .string (mkS l) ∧ l.length ≤ 1048576 := by
  obtain ⟨s, e, rfl, _⟩ := DataW.trod_string Tryz.underlying9 h
  simp only [Rows.uptoBulk] at hb
  exact ⟨s.data.toList, by rw [← of_mkS]; simpa using e, by omega⟩
theorem trod_lbB {fuel : Nat} {c0 c1 : Value} {x : DataW H × List MemPlace} (h : DataW.trod enc Tryz.prog W base spare held fuel 72 [c0, c1] = some x) (hb : Rows.uptoBulk x.1 ≤ 1048576) : ∃ y : Lb, LbR W y [c0, c1] := by
  obtain ⟨ys, n2, _, rfl, _, hyl, hfy⟩ := DataW.trod_struct Tryz.underlying72 h
  have hys : ys.length = 2 := hyl
  have g0 : DataW.trod enc Tryz.prog W base spare held n2 9 (([c0, c1].drop 0).take (Tryz.prog.cellsOf 9)) = ys[0]? := hfy 0 _ rfl
  have g1 : DataW.trod enc Tryz.prog W base spare held n2 9 (([c0, c1].drop 1).take (Tryz.prog.cellsOf 9)) = ys[1]? := hfy 1 _ rfl
  rw [cellsStr] at g0 g1
  simp only [List.drop, List.take] at g0 g1
  rw [List.getElem?_eq_getElem (by rw [hys]; decide)] at g0 g1
  obtain ⟨l0, rfl, h0⟩ := str_len g0 (bulk_field hb (List.getElem?_eq_getElem (l := ys) (i := 0) (by rw [hys]; decide)))
  obtain ⟨l1, rfl, h1⟩ := str_len g1 (bulk_field hb (List.getElem?_eq_getElem (l := ys) (i := 1) (by rw [hys]; decide)))
  exact ⟨⟨l0, l1⟩, rfl, by show l0.length ≤ _; omega, by show l1.length ≤ _; omega⟩
theorem trod_mtB {fuel : Nat} {c0 c1 c2 : Value} {x : DataW H × List MemPlace} (h : DataW.trod enc Tryz.prog W base spare held fuel 70 [c0, c1, c2] = some x) (hb : Rows.uptoBulk x.1 ≤ 1048576) : ∃ y : Mt, MtR W y [c0, c1, c2] := by
  obtain ⟨ys, n2, _, rfl, _, hyl, hfy⟩ := DataW.trod_struct Tryz.underlying70 h
  have hys : ys.length = 3 := hyl
  have g0 : DataW.trod enc Tryz.prog W base spare held n2 3 (([c0, c1, c2].drop 0).take (Tryz.prog.cellsOf 3)) = ys[0]? := hfy 0 _ rfl
  have g1 : DataW.trod enc Tryz.prog W base spare held n2 9 (([c0, c1, c2].drop 1).take (Tryz.prog.cellsOf 9)) = ys[1]? := hfy 1 _ rfl
  have g2 : DataW.trod enc Tryz.prog W base spare held n2 9 (([c0, c1, c2].drop 2).take (Tryz.prog.cellsOf 9)) = ys[2]? := hfy 2 _ rfl
  rw [cellsInt] at g0
  rw [cellsStr] at g1 g2
  simp only [List.drop, List.take] at g0 g1 g2
  rw [List.getElem?_eq_getElem (by rw [hys]; decide)] at g0 g1 g2
  obtain ⟨z, e0, _, w0⟩ := DataW.trod_int Tryz.underlying3 g0
  have e0' : c0 = .int .i64 z := by simpa using e0
  obtain ⟨l1, rfl, h1⟩ := str_len g1 (bulk_field hb (List.getElem?_eq_getElem (l := ys) (i := 1) (by rw [hys]; decide)))
  obtain ⟨l2, rfl, h2⟩ := str_len g2 (bulk_field hb (List.getElem?_eq_getElem (l := ys) (i := 2) (by rw [hys]; decide)))
  have hw := wf_i64 w0
  exact ⟨⟨z, l1, l2⟩, by rw [e0'], by show l1.length ≤ _; omega, by show l2.length ≤ _; omega, hw.1, hw.2⟩
theorem isLbsB_of (hv : Value.okWide Tryz.prog W r b0 22 v) (hd : DataW.Trod enc Tryz.prog W base spare held 22 v d ps) (hb : Rows.uptoBulk d ≤ 1048576) : IsLbs W v := by
  obtain ⟨a0, len, cap, rfl⟩ := okWide_slice Tryz.underlying22 hv
  obtain ⟨fuel, hf⟩ := hd
  have hf' : DataW.trod enc Tryz.prog W base spare held fuel 22 [.slice a0 len cap] = some (d, ps) := by simpa [Value.cells] using hf
  obtain ⟨L, hL, _⟩ := sp_ofB (R := LbR) (M := 1048576) ⟨⟨[], []⟩⟩ Tryz.underlying22 cellsLb (by decide) (fun fuel cs x h1 h2 h3 => by
    match cs, h2 with
    | [c0, c1], _ => exact trod_lbB h1 h3) hf' hb
  exact ⟨L, hL⟩
theorem isMtsB_of (hv : Value.okWide Tryz.prog W r b0 34 v) (hd : DataW.Trod enc Tryz.prog W base spare held 34 v d ps) (hb : Rows.uptoBulk d ≤ 1048576) : IsMts W v := by
  obtain ⟨a0, len, cap, rfl⟩ := okWide_slice Tryz.underlying34 hv
  obtain ⟨fuel, hf⟩ := hd
  have hf' : DataW.trod enc Tryz.prog W base spare held fuel 34 [.slice a0 len cap] = some (d, ps) := by simpa [Value.cells] using hf
  obtain ⟨L, hL, _⟩ := sp_ofB (R := MtR) (M := 1048576) ⟨⟨0, [], []⟩⟩ Tryz.underlying34 cellsMt (by decide) (fun fuel cs x h1 h2 h3 => by
    match cs, h2 with
    | [c0, c1, c2], _ => exact trod_mtB h1 h3) hf' hb
  exact ⟨L, hL⟩
theorem isTxB_of (hv : Value.okWide Tryz.prog W r b0 9 v) (hd : DataW.Trod enc Tryz.prog W base spare held 9 v d ps) (hb : Rows.uptoBulk d ≤ 1048576) : IsTx v := by
  obtain ⟨s, rfl⟩ := okWide_string Tryz.underlying9 hv
  obtain ⟨fuel, hf⟩ := hd
  have hf' : DataW.trod enc Tryz.prog W base spare held fuel 9 [.string s] = some (d, ps) := by simpa [Value.cells] using hf
  obtain ⟨l, e, h⟩ := str_len hf' hb
  exact ⟨l, e, h⟩
end
end Go.Proofs.YtlfhcjhbnakamaaGreatDoor.Lab
/-
  An expression that came in, under the bound on the bulk; the tables as the row's list lays them.
-/
namespace Go.Proofs.YtlfhcjhbnakamaaGreatDoor.Exp
open Go.RowKit Go.Gh Go.WideShapes Go.ChangeShapes Go.ChangeAt Go.Deep Go.Joins Go.Proofs.YtlfhcjhbnakamaaGreatDoor.Lab
set_option linter.unusedVariables false
set_option linter.unusedSimpArgs false
set_option maxRecDepth 100000
section
variable {H : Type} {enc : TypeId × Value → H} {W : World} {base b0 : Nat} {r : Reach} {spare : Nat → Bool} {held : Bool} {v : Value} {d : DataW H} {ps : List MemPlace}
theorem sum_bulk {α : Type} (f : α → Nat) (Q : Nat → α) (D : Nat → DataW H) : ∀ (l : List Nat), (∀ i ∈ l, f (Q i) ≤ Rows.uptoBulk (D i)) → ((l.map Q).map f).sum ≤ Rows.uptoBulkAll (l.map D)
  | [], _ => Nat.zero_le _
  | i :: l, h => by
    simp only [List.map_cons, List.sum_cons, Rows.uptoBulkAll]
    have h1 := h i (by simp)
    have h2 := sum_bulk f Q D l (fun j hj => h j (by simp [hj]))
    omega
/-- A slice that came in, with a weight of its elements that the bulk bounds. -/
theorem sp_ofW {α : Type} {R : World → α → List Value → Prop} {t e : TypeId} {k fuel M : Nat} {v : Value} {x : DataW H × List MemPlace} (f : α → Nat) (inh : Inhabited α) (ht : Tryz.prog.underlying t = some (.slice e)) (hk : Tryz.prog.cellsOf e = k) (hpos : 0 < k)
    (hel : ∀ fuel cs x, DataW.trod enc Tryz.prog W base spare held fuel e cs = some x → cs.length = k → Rows.uptoBulk x.1 ≤ M → ∃ a, R W a cs ∧ f a ≤ Rows.uptoBulk x.1)
    (h : DataW.trod enc Tryz.prog W base spare held fuel t [v] = some x) (hbk : Rows.uptoBulk x.1 ≤ M) : ∃ L : List α, Sp R k W v L ∧ L.length ≤ M ∧ (L.map f).sum ≤ Rows.uptoBulk x.1 := by
  rcases open_slice ht h with ⟨hcs, _⟩ | ⟨a, len, cap, m, n, D, Pl, hcs, hb, hl, hm, hmm, hx, hi'⟩
  · obtain rfl : v = .slice none 0 0 := by simpa using hcs
    exact ⟨[], Sp.nil, Nat.zero_le _, Nat.zero_le _⟩
  · obtain rfl : v = .slice (some a) len cap := by simpa using hcs
    have hlm : len ≤ m := by rw [hmm]; split <;> omega
    rw [hx] at hbk ⊢
    simp only [Rows.uptoBulk] at hbk ⊢
    have hlen : len ≤ M := by
      have := bulk_len ((List.range len).map D)
      rw [List.length_map, List.length_range] at this
      omega
    have each : ∀ i, i < len → ∃ p : α × List Value, p.2.length = k ∧ (R W p.1 p.2 ∧ f p.1 ≤ Rows.uptoBulk (D i)) ∧ ∀ j u, p.2[j]? = some u → W.cell? (a.add (i * k + j)) = some u := by
      intro i hlt
      obtain ⟨cs', hc, ht'⟩ := hi' i (by omega)
      rw [hk] at hc
      obtain ⟨_, hcl, hat⟩ := World.cells?_some hc
      have hbi : Rows.uptoBulk (D i) ≤ M := by
        have h1 : D i ∈ (List.range len).map D := List.mem_map.2 ⟨i, by simpa using hlt, rfl⟩
        have := bulk_part h1
        omega
      obtain ⟨y, hy⟩ := hel _ _ _ ht' hcl hbi
      refine ⟨(y, cs'), hcl, hy, fun j u hu => ?_⟩
      have hj : j < k := by
        have h9 : j < cs'.length := (List.getElem?_eq_some_iff.1 hu).1
        have h10 : cs'.length = k := hcl
        omega
      have h2 := hat j hj
      rw [add_add] at h2
      rw [h2]
      exact hu
    haveI : Inhabited (α × List Value) := ⟨(inh.default, [])⟩
    obtain ⟨Q, hQ⟩ := choose_lt each
    have hL : ((List.range len).map Q).length = len := by simp
    have hPK : PK k ((List.range len).map Q) := by
      intro p hp
      obtain ⟨i, hi, rfl⟩ := List.mem_map.1 hp
      exact (hQ i (by simpa using hi)).1
    refine ⟨((List.range len).map Q).map (·.1), ⟨(List.range len).map Q, rfl, hPK, ?_, some a, cap, ?_, ?_, hm, fun h => by simp at h, ?_, fun hn => ?_⟩, ?_, ?_⟩
    · intro p hp
      obtain ⟨i, hi, rfl⟩ := List.mem_map.1 hp
      exact (hQ i (by simpa using hi)).2.1.1
    · rw [List.length_map, hL]
    · rw [List.length_map, hL]; exact hl
    · rw [pc_len hPK, List.length_map, List.length_map, List.length_map]
    · rw [List.length_map, hL] at hn
      obtain ⟨u0, hu0⟩ : ∃ u, (Q 0).2[0]? = some u := ⟨_, List.getElem?_eq_getElem (by rw [(hQ 0 hn).1]; exact hpos)⟩
      have h0 := (hQ 0 hn).2.2 0 u0 hu0
      obtain ⟨b, off, spot⟩ := a
      have hs := World.cell?_spot h0
      simp [Addr.add] at hs
      subst hs
      refine ⟨b, off, rfl, fun i u hu => ?_⟩
      have hidx : i < len * k := by
        rcases Nat.lt_or_ge i (len * k) with h' | h'
        · exact h'
        · rw [List.getElem?_eq_none (by rw [pc_len hPK, hL]; exact h')] at hu; simp at hu
      have hq : i / k < len := Nat.div_lt_of_lt_mul (by rw [Nat.mul_comm]; exact hidx)
      have hr : i % k < k := Nat.mod_lt _ hpos
      have hdm : i / k * k + i % k = i := by rw [Nat.mul_comm]; exact Nat.div_add_mod i k
      have hp : ((List.range len).map Q)[i / k]? = some (Q (i / k)) := by simp [hq]
      rw [← hdm, pc_get hPK hp hr] at hu
      have := (hQ (i / k) hq).2.2 (i % k) u hu
      rw [addr_add, hdm] at this
      exact this
    · rw [List.length_map, hL]; exact hlen
    · have h1 := sum_bulk f (fun i => (Q i).1) D (List.range len) (fun i hi => (hQ i (by simpa using hi)).2.1.2)
      have e : ((List.range len).map Q).map (·.1) = (List.range len).map fun i => (Q i).1 := by rw [List.map_map]; rfl
      rw [e]
      omega
/-- The bulk of a struct's part is less. -/
theorem bulk_fieldS {xs : List (DataW H × List MemPlace)} {y : DataW H × List MemPlace} {i : Nat} (hy : xs[i]? = some y) : Rows.uptoBulk y.1 + 1 ≤ Rows.uptoBulk (DataW.agg (xs.map (·.1))) := by
  simp only [Rows.uptoBulk]
  have h1 : y.1 ∈ xs.map (·.1) := List.mem_map.2 ⟨y, List.mem_of_getElem? hy, rfl⟩
  have := bulk_part h1
  omega
theorem szL_sum : ∀ (L : List Ex), szL L = (L.map szX).sum
  | [] => by rw [szL_nil]; rfl
  | y :: r => by rw [szL_cons, szL_sum r]; rfl
theorem cellsEx : Tryz.prog.cellsOf 38 = 6 := by kernel_rfl
theorem cellsI64 : Tryz.prog.cellsOf 2 = 1 := by kernel_rfl
theorem cellsMs : Tryz.prog.cellsOf 34 = 1 := by kernel_rfl
theorem cellsBs : Tryz.prog.cellsOf 35 = 1 := by kernel_rfl
theorem cellsXs : Tryz.prog.cellsOf 36 = 1 := by kernel_rfl
theorem trod_ex : ∀ (m : Nat), m ≤ 1048576 → ∀ (fuel : Nat) (c0 c1 c2 c3 c4 c5 : Value) (x : DataW H × List MemPlace), DataW.trod enc Tryz.prog W base spare held fuel 38 [c0, c1, c2, c3, c4, c5] = some x → Rows.uptoBulk x.1 ≤ m → ∃ y, ExD m W y [c0, c1, c2, c3, c4, c5] ∧ szX y ≤ Rows.uptoBulk x.1
  | 0, _, fuel, c0, c1, c2, c3, c4, c5, x, _, hb => by have := bulk_one x.1; omega
  | m + 1, hm, fuel, c0, c1, c2, c3, c4, c5, x, h, hb => by
    obtain ⟨ys, n2, _, rfl, _, hyl, hfy⟩ := DataW.trod_struct Tryz.underlying38 h
    have hys : ys.length = 6 := hyl
    have hb' : Rows.uptoBulk (DataW.agg (ys.map (·.1))) ≤ m + 1 := hb
    have g0 : DataW.trod enc Tryz.prog W base spare held n2 3 (([c0, c1, c2, c3, c4, c5].drop 0).take (Tryz.prog.cellsOf 3)) = ys[0]? := hfy 0 _ rfl
    have g1 : DataW.trod enc Tryz.prog W base spare held n2 2 (([c0, c1, c2, c3, c4, c5].drop 1).take (Tryz.prog.cellsOf 2)) = ys[1]? := hfy 1 _ rfl
    have g2 : DataW.trod enc Tryz.prog W base spare held n2 2 (([c0, c1, c2, c3, c4, c5].drop 2).take (Tryz.prog.cellsOf 2)) = ys[2]? := hfy 2 _ rfl
    have g3 : DataW.trod enc Tryz.prog W base spare held n2 34 (([c0, c1, c2, c3, c4, c5].drop 3).take (Tryz.prog.cellsOf 34)) = ys[3]? := hfy 3 _ rfl
    have g4 : DataW.trod enc Tryz.prog W base spare held n2 35 (([c0, c1, c2, c3, c4, c5].drop 4).take (Tryz.prog.cellsOf 35)) = ys[4]? := hfy 4 _ rfl
    have g5 : DataW.trod enc Tryz.prog W base spare held n2 36 (([c0, c1, c2, c3, c4, c5].drop 5).take (Tryz.prog.cellsOf 36)) = ys[5]? := hfy 5 _ rfl
    rw [cellsInt] at g0
    rw [cellsI64] at g1 g2
    rw [cellsMs] at g3
    rw [cellsBs] at g4
    rw [cellsXs] at g5
    simp only [List.drop, List.take] at g0 g1 g2 g3 g4 g5
    have b3 := bulk_fieldS (List.getElem?_eq_getElem (l := ys) (i := 3) (by rw [hys]; decide))
    have b4 := bulk_fieldS (List.getElem?_eq_getElem (l := ys) (i := 4) (by rw [hys]; decide))
    have b5 := bulk_fieldS (List.getElem?_eq_getElem (l := ys) (i := 5) (by rw [hys]; decide))
    rw [List.getElem?_eq_getElem (by rw [hys]; decide)] at g0 g1 g2 g3 g4 g5
    obtain ⟨k, e0, _, w0⟩ := DataW.trod_int Tryz.underlying3 g0
    obtain ⟨n, e1, _, w1⟩ := DataW.trod_int Tryz.underlying2 g1
    obtain ⟨wd, e2, _, w2⟩ := DataW.trod_int Tryz.underlying2 g2
    have e0' : c0 = .int .i64 k := by simpa using e0
    have e1' : c1 = .int .i64 n := by simpa using e1
    have e2' : c2 = .int .i64 wd := by simpa using e2
    obtain ⟨ms, hms, _⟩ := sp_ofB (R := MtR) (M := 1048576) ⟨⟨0, [], []⟩⟩ Tryz.underlying34 cellsMt (by decide) (fun fuel cs x h1 h2 h3 => by
      match cs, h2 with
      | [d0, d1, d2], _ => exact trod_mtB h1 h3) g3 (by omega)
    obtain ⟨bs, hbs, hbl⟩ := sp_ofB (R := StrR) (M := 1048576) ⟨[]⟩ Tryz.underlying35 cellsStr (by decide) (fun fuel cs x h1 h2 h3 => by
      match cs, h2 with
      | [d0], _ =>
        obtain ⟨l, rfl, hl⟩ := str_len h1 h3
        exact ⟨l, rfl, hl⟩) g4 (by omega)
    obtain ⟨xs, hxs, _, hsum⟩ := sp_ofW (R := ExD m) (M := m) szX ⟨⟨0, 0, 0, [], [], []⟩⟩ Tryz.underlying36 cellsEx (by decide) (fun fuel cs x h1 h2 h3 => by
      match cs, h2 with
      | [d0, d1, d2, d3, d4, d5], _ => exact trod_ex m (by omega) fuel d0 d1 d2 d3 d4 d5 x h1 h3) g5 (by omega)
    have q0 := wf_i64 w0
    have q1 := wf_i64 w1
    have q2 := wf_i64 w2
    refine ⟨⟨k, n, wd, ms, bs, xs⟩, ⟨c3, c4, c5, by rw [e0', e1', e2']; rfl, hms, hbs, hxs, hbl, q0.1, q0.2, q1.1, q1.2, q2.1, q2.2⟩, ?_⟩
    rw [szX_eq]
    show 1 + szL xs ≤ Rows.uptoBulk (DataW.agg (ys.map (·.1)))
    rw [szL_sum]
    omega
def IsExB (w : World) (v : Value) : Prop := ∃ (m : Nat) (y : Ex) (c0 c1 c2 c3 c4 c5 : Value), v = .agg #[c0, c1, c2, c3, c4, c5] ∧ ExD m w y [c0, c1, c2, c3, c4, c5] ∧ szX y ≤ 1048576
theorem isExB_of (hv : Value.okWide Tryz.prog W r b0 38 v) (hd : DataW.Trod enc Tryz.prog W base spare held 38 v d ps) (hb : Rows.uptoBulk d ≤ 1048576) : IsExB W v := by
  obtain ⟨cs, rfl, hsz⟩ := okWide_struct Tryz.underlying38 hv
  obtain ⟨l⟩ := cs
  match l, hsz.trans cellsEx with
  | [c0, c1, c2, c3, c4, c5], _ =>
    obtain ⟨fuel, hf⟩ := hd
    have hf' : DataW.trod enc Tryz.prog W base spare held fuel 38 [c0, c1, c2, c3, c4, c5] = some (d, ps) := by simpa [Value.cells] using hf
    obtain ⟨y, h1, h2⟩ := trod_ex 1048576 (Nat.le_refl _) fuel c0 c1 c2 c3 c4 c5 (d, ps) hf' hb
    exact ⟨1048576, y, c0, c1, c2, c3, c4, c5, rfl, h1, Nat.le_trans h2 hb⟩
end
theorem laid_tail {a : String × DataW Unit} {rest : List (String × DataW Unit)} {W : World} (h : laidMet Tryz.prog (a :: rest) W) : laidMet Tryz.prog rest W := by
  obtain ⟨ps, ⟨g, t, cs, fuel, p, q, hg, ht, hv, hd, hr, rfl⟩, hn, ha⟩ := h
  exact ⟨q, hr, (List.nodup_append.1 hn).2.1, fun b off hm => ha b off (List.mem_append_right _ hm)⟩
theorem gWd : Tryz.prog.globalNamed "gaugehouse/expr.words" = some 1 := by kernel_rfl
theorem gWdType : (Tryz.prog.globals[1]?).map (·.type) = some 97 := by kernel_rfl
theorem cellsWd : Tryz.prog.cellsOf 97 = 9 := by kernel_rfl
theorem wtab_of_laid {W : World} {rest : List (String × DataW Unit)} (h : laidMet Tryz.prog (("gaugehouse/expr.words", Rows.laid_gaugehouse_expr_words) :: rest) W) : WTab W := by
  obtain ⟨ps, ⟨g, t, cs, fuel, p, q, hg, ht, hvar, hd, _, _⟩, _⟩ := h
  obtain rfl := Option.some.inj (gWd.symm.trans hg)
  obtain rfl := Option.some.inj (gWdType.symm.trans ht)
  obtain ⟨xs, m, rfl, hx, hlen, hn, hel⟩ := DataW.trod_array Tryz.underlying97 hd
  obtain ⟨l⟩ := cs
  rw [cellsWd] at hlen
  rw [cellsStr] at hel
  simp only [Prod.mk.injEq] at hx
  have hx1 := hx.1
  simp only [Rows.laid_gaugehouse_expr_words, DataW.agg.injEq] at hx1
  match xs, hn, hx1 with
  | [x0, x1, x2, x3, x4, x5, x6, x7, x8], _, hx1 =>
    simp only [List.map_cons, List.map_nil, List.cons.injEq, and_true] at hx1
    obtain ⟨e0, e1, e2, e3, e4, e5, e6, e7, e8⟩ := hx1
    match l, hlen with
    | [c0, c1, c2, c3, c4, c5, c6, c7, c8], _ =>
      have r0 := str_cell (hel 0 (by decide)) e0.symm
      have r1 := str_cell (hel 1 (by decide)) e1.symm
      have r2 := str_cell (hel 2 (by decide)) e2.symm
      have r3 := str_cell (hel 3 (by decide)) e3.symm
      have r4 := str_cell (hel 4 (by decide)) e4.symm
      have r5 := str_cell (hel 5 (by decide)) e5.symm
      have r6 := str_cell (hel 6 (by decide)) e6.symm
      have r7 := str_cell (hel 7 (by decide)) e7.symm
      have r8 := str_cell (hel 8 (by decide)) e8.symm
      subst r0 r1 r2 r3 r4 r5 r6 r7 r8
      intro k hk
      have c := World.var?_cell hg hvar k
      have : k = 0 ∨ k = 1 ∨ k = 2 ∨ k = 3 ∨ k = 4 ∨ k = 5 ∨ k = 6 ∨ k = 7 ∨ k = 8 := by omega
      rcases this with rfl | rfl | rfl | rfl | rfl | rfl | rfl | rfl | rfl <;> exact c
theorem ptab_of_laid {W : World} {rest : List (String × DataW Unit)} (h : laidMet Tryz.prog (("internal/strconv.uint64pow10", Rows.laid_internal_strconv_uint64pow10) :: rest) W) : PTab W :=
  Lib.tabIs_of_head (g := 2) (t := 158) (e := 78) (n := 20) (by kernel_rfl) (by kernel_rfl) Tryz.underlying158 Tryz.underlying78 (by kernel_rfl) (by kernel_rfl) h
section
variable {W : World} {a b c e : String × DataW Unit} {rest : List (String × DataW Unit)}
theorem stab5 (h : laidMet Tryz.prog (a :: b :: c :: ("gaugehouse/label.signs", Rows.laid_gaugehouse_label_signs) :: rest) W) : STab W := stab_of_laid (laid_tail (laid_tail (laid_tail h)))
theorem wtab5 (h : laidMet Tryz.prog (a :: b :: c :: e :: ("gaugehouse/expr.words", Rows.laid_gaugehouse_expr_words) :: rest) W) : WTab W := wtab_of_laid (laid_tail (laid_tail (laid_tail (laid_tail h))))
theorem ptab5 (h : laidMet Tryz.prog (a :: b :: ("internal/strconv.uint64pow10", Rows.laid_internal_strconv_uint64pow10) :: rest) W) : PTab W := ptab_of_laid (laid_tail (laid_tail h))
end
end Go.Proofs.YtlfhcjhbnakamaaGreatDoor.Exp
/-
  'gaugehouselaw.ExprTells': the walk of the law.
-/
namespace Go.Proofs.YtlfhcjhbnakamaaGreatDoor.ExprTells
open Go.RowKit Go.Gh Go.Proofs.YtlfhcjhbnakamaaGreatDoor.Lab Go.Proofs.YtlfhcjhbnakamaaGreatDoor.Exp
set_option linter.unusedVariables false
set_option linter.unusedSimpArgs false
set_option maxHeartbeats 8000000 in
set_option maxRecDepth 100000 in
theorem walk (v0 : Value) (w : World) (h0 : IsExB w v0) (hT : STab w) (hW : WTab w) (hP : PTab w) :
    Calls Tryz.prog 4 #[v0] w fun e w' => e = .returned (.bool true) ∧ Below w.heap.size w w' := by
  obtain ⟨d, x, u0, u1, u2, u3, u4, u5, rfl, h, hz⟩ := h0
  obtain ⟨k0, k1, k2, am, lm, cm, ab, lb, cb, ax, lx, cx, hsh⟩ := exD_shape h
  simp only [List.cons.injEq, and_true] at hsh
  obtain ⟨rfl, rfl, rfl, rfl, rfl, rfl⟩ := hsh
  obtain ⟨wa, hwa, hbox, hba, hsa⟩ := box_ex w (.int .i64 k0) (.int .i64 k1) (.int .i64 k2) (.slice am lm cm) (.slice ab lb cb) (.slice ax lx cx)
  have HTX := Lib.hid (fun W (hb : Below w.heap.size w W) => textT_any d x _ _ _ _ _ _ W (exD_mono d _ _ _ _ h hb) hz (hT.below hb) (hW.below hb) (hP.below hb))
  have HCK := Lib.hid (fun W (hb : Below w.heap.size w W) => checkT_any d x _ _ _ _ _ _ W (exD_mono d _ _ _ _ h hb) hz)
  have HFL := Lib.hid (fun W (hb : Below w.heap.size w W) => faultT_any d x _ _ _ _ _ _ W (exD_mono d _ _ _ _ h hb) hz)
  have HRT := Lib.hid (fun W (hb : Below w.heap.size w W) (h0 : exF x = 0) => extext_any d x _ _ _ _ _ _ W (exD_mono d _ _ _ _ h hb) (exF_ok h0).2 (exF_ok h0).1)
  obtain ⟨F, hF⟩ : ∃ F, exF x = F := ⟨_, rfl⟩
  obtain ⟨T, hTT⟩ : ∃ T, txX x = T := ⟨_, rfl⟩
  rw [hF] at HTX HCK HFL HRT
  rw [hTT] at HTX HRT
  obtain ⟨S, hS⟩ : ∃ S, mkS T = S := ⟨_, rfl⟩
  rw [hS] at HRT
  have HWA := Lib.hid hwa
  have HBA := Lib.hid hba
  obtain ⟨⟨d0, d1, d2, d3, d4, d5⟩, -⟩ := bx6 hbox
  obtain ⟨bx, hbx⟩ : ∃ bx, w.heap.size = bx := ⟨_, rfl⟩
  rw [hbx] at d0 d1 d2 d3 d4 d5 hbox
  have HBX := Lib.hid hbox
  have HBE := Lib.hid hbx
  have hbl : bx < wa.heap.size := (Array.getElem?_eq_some_iff.1 hbox).1
  have HS : Hid (mkS (if F = 0 then T else []) = if F = 0 then S else ⟨#[]⟩) := Lib.hid (by
    by_cases hf : F = 0
    · rw [if_pos hf, if_pos hf]; exact hS
    · rw [if_neg hf, if_neg hf]; rfl)
  have HTX1 := Lib.hid (HTX.out wa HBA.out)
  clear h hz hT hW hP hwa hbox hba hsa hF hTT hbx hS
  go_enter Tryz.func4, Tryz.ntmps4
  go_upto_region 1 with (fail)
  rw [HBE.out, ← HWA.out]
  go_upto_region 2 with (go_at_call 14; refine HTX1.out.mono ?_; rintro e w2 ⟨rfl, hb2⟩; rw [HS.out]; have HBX2 := Lib.hid ((hb2.block bx hbl).trans HBX.out); have HB2 := Lib.hid (HBA.out.trans (hb2.mono HBA.out.size)); clear hb2)
  obtain ⟨⟨e0, e1, e2, e3, e4, e5⟩, -⟩ := bx6 HBX2.out
  have hbl2 : bx < w2.heap.size := (Array.getElem?_eq_some_iff.1 HBX2.out).1
  have HFL2 := Lib.hid (HFL.out w2 HB2.out)
  clear d0 d1 d2 d3 d4 d5
  go_upto_region 3 with (go_at_call 15; refine HFL2.out.mono ?_; rintro e w3 ⟨rfl, hb3⟩; have HBX3 := Lib.hid ((hb3.block bx hbl2).trans HBX2.out); have HB3 := Lib.hid (HB2.out.trans (hb3.mono HB2.out.size)); clear hb3)
  obtain ⟨⟨f0, f1, f2, f3, f4, f5⟩, -⟩ := bx6 HBX3.out
  have hbl3 : bx < w3.heap.size := (Array.getElem?_eq_some_iff.1 HBX3.out).1
  have HCK3 := Lib.hid (HCK.out w3 HB3.out)
  clear e0 e1 e2 e3 e4 e5
  go_upto_region 5 with (go_at_call 16; refine HCK3.out.mono ?_; rintro e w4 ⟨rfl, hb4⟩; have HBX4 := Lib.hid ((hb4.block bx hbl3).trans HBX3.out); have HB4 := Lib.hid (HB3.out.trans (hb4.mono HB3.out.size)); clear hb4)
  obtain ⟨⟨g0, g1, g2, g3, g4, g5⟩, -⟩ := bx6 HBX4.out
  clear f0 f1 f2 f3 f4 f5
  by_cases hf : F = 0
  · subst hf
    have HRT4 := Lib.hid (HRT.out w4 HB4.out rfl)
    rw [if_pos rfl]
    go_wp2_with (go_at_call 17; refine HRT4.out.mono ?_; rintro e w5 ⟨rfl, hb5⟩; have HB5 := Lib.hid (HB4.out.trans (hb5.mono HB4.out.size)); clear hb5)
    go_ret
    exact ⟨rfl, HB5.out⟩
  · have t1 : (F != 0) = true := by rw [bne_iff_ne]; exact hf
    rw [if_neg hf]
    clear hf
    go_wp2_with fail
    go_ret
    exact ⟨rfl, HB4.out⟩
end Go.Proofs.YtlfhcjhbnakamaaGreatDoor.ExprTells
/-
  'gaugehouselaw.ExprTells' returns true, whatever is handed in of bulk at most 1048576 (the given second form's bound), and its arguments read behind the call as they read before; the listed tables as the program's text lays them: THE ROW and THE TIED CARD.
-/
namespace Go.Proofs.YtlfhcjhbnakamaaGreatDoor.ExprTells
open Go.RowKit Go.ChangeShapes Go.WideShapes Go.ChangeAt Go.Gh Go.Proofs.YtlfhcjhbnakamaaGreatDoor.Lab Go.Proofs.YtlfhcjhbnakamaaGreatDoor.Exp
set_option linter.unusedVariables false
set_option linter.unusedSimpArgs false
theorem own : ownKnob Tryz.prog.godebug = none := by kernel_rfl
theorem laidOut : laidOutB Tryz.prog = true := by kernel_rfl
set_option maxRecDepth 100000 in
theorem contract (H : Type) (enc : TypeId × Value → H) (W : World) (base : Nat) (args : Array Value) (ds gs : List (DataW H)) (before : List MemPlace)
    (hval : ∀ (j : Nat) t v, Tryz.f4.params[j]? = some t → args[j]? = some v → Value.okWide Tryz.prog W .any base t v)
    (hW : DataW.Whole enc Tryz.prog Tryz.f4.params.toList Rows.exprTellsSpec.vars false W args.toList ds gs before)
    (hk : Rows.uptoSmall H (ds ++ gs) = true)
    (hL : laidMetH Tryz.prog Rows.exprTellsUptoRow.laid W) (hSh : W.ShapedOpen Tryz.prog) :
    Calls Tryz.prog 4 args W fun e W' => ∃ v, e = .returned v ∧ Rows.exprTellsSpec.post enc Tryz.prog Tryz.f4 false true false false W args v W' := by
  have hW' := hW
  obtain ⟨p, q, hA0, hV, rfl, hfz, hnd⟩ := hW
  have hA : DataW.TrodAll enc Tryz.prog W 0 (fun _ => true) true Tryz.f4.params.toList args.toList ds p := hA0
  rw [Tryz.params4] at hA hval
  obtain ⟨v0, vs0, d0, ds0, p0, q0, hargs, rfl, rfl, h0, r0⟩ := trodAll_cons hA
  obtain ⟨rfl, rfl, rfl⟩ := trodAll_nil r0
  obtain rfl : args = #[v0] := by cases args; simp_all
  obtain ⟨rfl, rfl⟩ := trodVars_none hV
  have u0 := (isExB_of (hval 0 _ v0 rfl rfl) h0 (bulk_at hk (by simp)))
  clear hA0
  refine (walk v0 W u0 (stab5 hL) (wtab5 hL) (ptab5 hL)).mono fun e W' ⟨he, bel⟩ => ?_
  subst he
  exact ⟨_, rfl, _, _, _, [], _, [], hW', trodAll_mk1 (shut_bool Tryz.underlying4 _), (trodAll_cons_mk (Below.trod laidOut (by kernel_rfl) (of_decide_eq_true (by kernel_rfl)) h0 bel (trod_lt' h0)) trodAll_mk0), rfl, bel.frame _, fun h => by cases h⟩

/-- A world for the witness: the settled one, the tables' blocks holding what their initialisers lay. -/
noncomputable def laidWorld (os : Os) : World :=
  { World.holding Tryz.prog os ⟨#[], #[], []⟩ with heap := (((((((World.holding Tryz.prog os ⟨#[], #[], []⟩).heap).modify 0 fun
      | .cells _ t frozen => .cells #[.string ⟨#[]⟩, .string ⟨#[61]⟩, .string ⟨#[33, 61]⟩, .string ⟨#[61, 94]⟩, .string ⟨#[61, 126]⟩] t frozen
      | o => o).modify 1 fun
      | .cells _ t frozen => .cells #[.string ⟨#[]⟩, .string ⟨#[]⟩, .string ⟨#[]⟩, .string ⟨#[115, 117, 109]⟩, .string ⟨#[109, 97, 120]⟩, .string ⟨#[99, 111, 117, 110, 116]⟩, .string ⟨#[32, 43, 32]⟩, .string ⟨#[32, 45, 32]⟩, .string ⟨#[32, 42, 32]⟩] t frozen
      | o => o).modify 2 fun
      | .cells _ t frozen => .cells #[.int .u64 1, .int .u64 10, .int .u64 100, .int .u64 1000, .int .u64 10000, .int .u64 100000, .int .u64 1000000, .int .u64 10000000, .int .u64 100000000, .int .u64 1000000000, .int .u64 10000000000, .int .u64 100000000000, .int .u64 1000000000000, .int .u64 10000000000000, .int .u64 100000000000000, .int .u64 1000000000000000, .int .u64 10000000000000000, .int .u64 100000000000000000, .int .u64 1000000000000000000, .int .u64 10000000000000000000] t frozen
      | o => o).modify 4 fun
      | .cells _ t frozen => .cells #[.int .u8 0, .int .u8 1, .int .u8 28, .int .u8 2, .int .u8 29, .int .u8 14, .int .u8 24, .int .u8 3, .int .u8 30, .int .u8 22, .int .u8 20, .int .u8 15, .int .u8 25, .int .u8 17, .int .u8 4, .int .u8 8, .int .u8 31, .int .u8 27, .int .u8 13, .int .u8 23, .int .u8 21, .int .u8 19, .int .u8 16, .int .u8 7, .int .u8 26, .int .u8 12, .int .u8 18, .int .u8 6, .int .u8 11, .int .u8 5, .int .u8 10, .int .u8 9] t frozen
      | o => o).modify 5 fun
      | .cells _ t frozen => .cells #[.int .u8 0, .int .u8 1, .int .u8 56, .int .u8 2, .int .u8 57, .int .u8 49, .int .u8 28, .int .u8 3, .int .u8 61, .int .u8 58, .int .u8 42, .int .u8 50, .int .u8 38, .int .u8 29, .int .u8 17, .int .u8 4, .int .u8 62, .int .u8 47, .int .u8 59, .int .u8 36, .int .u8 45, .int .u8 43, .int .u8 51, .int .u8 22, .int .u8 53, .int .u8 39, .int .u8 33, .int .u8 30, .int .u8 24, .int .u8 18, .int .u8 12, .int .u8 5, .int .u8 63, .int .u8 55, .int .u8 48, .int .u8 27, .int .u8 60, .int .u8 41, .int .u8 37, .int .u8 16, .int .u8 46, .int .u8 35, .int .u8 44, .int .u8 21, .int .u8 52, .int .u8 32, .int .u8 23, .int .u8 11, .int .u8 54, .int .u8 26, .int .u8 40, .int .u8 15, .int .u8 34, .int .u8 20, .int .u8 31, .int .u8 10, .int .u8 25, .int .u8 14, .int .u8 19, .int .u8 9, .int .u8 13, .int .u8 8, .int .u8 7, .int .u8 6] t frozen
      | o => o) }
theorem laid_met (os : Os) : laidMet Tryz.prog Rows.exprTellsUptoRow.laid ((laidWorld os).forCall (fun _ _ => 0) ⟨#[], #[.agg #[.int .i64 0, .int .i64 0, .int .i64 0, .slice none 0 0, .slice none 0 0, .slice none 0 0]], []⟩).memory :=
  laidMet_of_run' 8 (by kernel_rfl) (by kernel_rfl)
theorem reads (os : Os) {H : Type} (enc : TypeId × Value → H) : ∃ places, DataW.whole enc Tryz.prog ((laidWorld os).forCall (fun _ _ => 0) ⟨#[], #[.agg #[.int .i64 0, .int .i64 0, .int .i64 0, .slice none 0 0, .slice none 0 0, .slice none 0 0]], []⟩).memory Tryz.f4.params.toList Rows.exprTellsSpec.vars false #[Value.agg #[.int .i64 0, .int .i64 0, .int .i64 0, .slice none 0 0, .slice none 0 0, .slice none 0 0]].toList 8 = some ([.agg [.lit (.int .i64 0), .lit (.int .i64 0), .lit (.int .i64 0), .nil, .nil, .nil]], [], places) :=
  ⟨[], by kernel_rfl⟩

set_option maxRecDepth 100000 in
theorem lifted (os : Os) (started : os.Started) (H : Type) (enc : TypeId × Value → H) (F : Stop.Interp) :
    ReturnsInHanded {} Tryz.checked os 4 .any ((Rows.OpenSpec.upto Rows.exprTellsSpec).preRow enc Tryz.prog Tryz.f4 Rows.exprTellsUptoRow.domain false Rows.exprTellsUptoRow.laid) (((Rows.OpenSpec.upto Rows.exprTellsSpec).at F).post enc Tryz.prog Tryz.f4 false true false false) := by
  obtain ⟨places, hx⟩ := reads os enc
  refine returnsInHanded_of_row (C := Tryz.checked) (s := Rows.OpenSpec.upto Rows.exprTellsSpec) own started (by kernel_rfl) Tryz.func4
    (witness_row_at (enc := enc) (C := Tryz.checked) false (laidWorld os) #[.agg #[.int .i64 0, .int .i64 0, .int .i64 0, .slice none 0 0, .slice none 0 0, .slice none 0 0]] rfl (by kernel_rfl) (by kernel_rfl) (by kernel_rfl)
      (OpenSpec.preRow_of_cond 8 hx (by kernel_rfl) (fun k hk => by cases hk; kernel_rfl) (by kernel_rfl) (laid_met os))) ?_
  intro W base args ds gs before hval hW _ hcond _ hL hSh _
  exact contract H enc W base args ds gs before hval hW (hcond _ rfl) hL hSh

theorem saidU : Rows.ExprTellsUptoSaid :=
  OpenClaim.holds_of_cond 4 Tryz.f4 rfl rfl rfl rfl rfl rfl rfl ⟨rfl, rfl, rfl, rfl, rfl⟩ rfl rfl rfl rfl rfl (by kernel_rfl) Tryz.func4 (by kernel_rfl)
    (of_decide_eq_true (by kernel_rfl)) (by unfold Func.isWrapper; first | (rw [if_pos (by decide +kernel)]; kernel_rfl) | (rw [if_neg (by decide +kernel)]; exact ⟨rfl, rfl⟩))
    (fun os started H enc _ F => by rw [OpenClaim.pre_eq_preRow]; exact lifted os started H enc F)

/-- No parameter wants a stand-in; the program's own looks are on. -/
theorem plain (f : FuncId) (fn : Func) (hf : Tryz.pinned.checked.prog.funcNamed "gaugehouse/gaugehouselaw.ExprTells" = some f) (hfn : Tryz.pinned.checked.prog.funcs[f]? = some fn) :
    true = Tryz.pinned.checked.prog.looks [] ∧ ∀ (j : Nat) t, fn.params[j]? = some t → Tryz.pinned.checked.prog.wantsStandIn t = false := by
  obtain rfl : f = 4 := Option.some.inj ((show Tryz.prog.funcNamed "gaugehouse/gaugehouselaw.ExprTells" = some 4 by kernel_rfl).symm.trans hf) |>.symm
  obtain rfl : fn = Tryz.f4 := (Option.some.inj (Tryz.func4.symm.trans hfn)).symm
  refine ⟨by kernel_rfl, fun j t ht => ?_⟩
  rw [Tryz.params4] at ht
  obtain rfl : t = 38 := by simpa using Array.mem_of_getElem? ht
  exact (show Tryz.prog.wantsStandIn 38 = false by kernel_rfl)

/-- THE CARD -/
theorem proved : Rows.ExprTellsUptoCardSaid :=
  Claim7.holds_tied_plain_at .later [] _ _ _ _ saidU (fun _ h => by cases h) (by kernel_rfl) (fun _ h => by cases h) exprTellsUpto_row_tie rfl ⟨rfl, rfl⟩ (by kernel_rfl) rfl plain (by kernel_rfl)
#print axioms proved
end Go.Proofs.YtlfhcjhbnakamaaGreatDoor.ExprTells
