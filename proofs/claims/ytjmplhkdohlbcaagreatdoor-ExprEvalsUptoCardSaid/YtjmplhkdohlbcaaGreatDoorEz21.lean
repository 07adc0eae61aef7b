/-
  Asked: every expression; and that both sides tell the same.
-/
import Derived.Test.YtjmplhkdohlbcaaGreatDoorEz1
import Derived.Test.YtjmplhkdohlbcaaGreatDoorEz3
import Derived.Test.YtjmplhkdohlbcaaGreatDoorEz7
import Derived.Test.YtjmplhkdohlbcaaGreatDoorEz9
import Derived.Test.YtjmplhkdohlbcaaGreatDoorEz14
import Derived.Test.YtjmplhkdohlbcaaGreatDoorEz20
import Derived.Test.YtjmplhkdohlbcaaGreatDoorRows
import Derived.JoinedCond
import Derived.Lib.SmallJoins
import Derived.ProofKit
import Derived.OpenShut
import Derived.Lib.LaidTab
import Derived.LaidLaws
import Derived.Shelf.Vars
namespace Go.Proofs.YtjmplhkdohlbcaaGreatDoor.Evl
open Go.RowKit Go.Gh Go.Gh.Clr Go.WideShapes Go.Proofs.YtjmplhkdohlbcaaGreatDoor.Lab Go.Proofs.YtjmplhkdohlbcaaGreatDoor.Exp
set_option linter.unusedVariables false
set_option linter.unusedSimpArgs false
theorem asked_any {all : List Srs} {now : Int} (hA : AllOk all now) (d : Nat) : ∀ (x : Ex) (u0 u1 u2 u3 u4 u5 v : Value) (w : World), ExD d w x [u0, u1, u2, u3, u4, u5] → chX x = 0 → Sp SrR 2 w v all →
    Calls Tryz.prog 32 #[.agg #[u0, u1, u2, u3, u4, u5], v, .int .i64 now] w (AsP w (akX all now x)) := by
  induction d with
  | zero => intro x u0 u1 u2 u3 u4 u5 v w h; exact h.elim
  | succ d ih =>
    intro x u0 u1 u2 u3 u4 u5 v w h hc hv
    obtain ⟨hbad, hm0, hl0, hx0⟩ := chX_ok hc
    obtain ⟨um, ub, ux, e0, hm, hb, hx, -, -⟩ := h
    simp only [List.cons.injEq, and_true] at e0
    obtain ⟨rfl, rfl, rfl, rfl, rfl, rfl⟩ := e0
    obtain ⟨hk, hl⟩ : 0 ≤ prtF x.kd ∧ (x.xs.length : Int) = prtF x.kd := by
      unfold badX at hbad
      constructor <;> omega
    obtain ⟨am, cm, hum, -, -⟩ := hm.shape
    obtain ⟨ab, cb, hub, -, -⟩ := hb.shape
    obtain ⟨av, cv, hvv, -, -⟩ := hv.shape
    have qum : ∃ a n c, u3 = .slice a n c := ⟨_, _, _, hum⟩
    have qub : ∃ a n c, u4 = .slice a n c := ⟨_, _, _, hub⟩
    have qv : ∃ a n c, v = .slice a n c := ⟨_, _, _, hvv⟩
    have hlen : all.length ≤ 200 := hA.len
    rw [akX_eq]
    unfold akA
    by_cases k1 : x.kd = 1
    · rw [if_pos k1, k1]
      exact asked_num x.n (.int .i64 x.wd) u3 u4 u5 v now w
    rw [if_neg k1]
    by_cases k2 : x.kd = 2
    · rw [if_pos k2, k2]
      have hwd : 1 ≤ x.wd ∧ x.wd ≤ 1099511627776 := by unfold badX at hbad; omega
      exact asked_sel all now x.ms x.n x.wd u3 u4 u5 v w hv hm hA hm0 hwd.1 hwd.2
    rw [if_neg k2]
    by_cases k3 : x.kd = 3 ∨ x.kd = 4 ∨ x.kd = 5
    · rw [if_pos k3]
      have hl1 : x.xs.length = 1 := by
        have : prtF x.kd = 1 := by unfold prtF; rw [if_neg (by omega), if_pos k3]
        omega
      obtain ⟨y, hy⟩ := List.length_eq_one_iff.1 hl1
      rw [hy] at hx ⊢
      have hy0 : chX y = 0 := chL_at (L := x.xs) (k := 0) hx0 (by rw [hy]; rfl)
      obtain ⟨e, hf⟩ := ev_ak hA.ok now (szX y) y (Nat.le_refl _) hy0
      rw [← e] at hf
      have hlY : (akX all now y).length ≤ 1000 := by have := hf.len; omega
      have hev : ∀ W c0 c1 c2 c3 c4 c5, Below w.heap.size w W → ExD d W y [c0, c1, c2, c3, c4, c5] → Calls Tryz.prog 32 #[.agg #[c0, c1, c2, c3, c4, c5], v, .int .i64 now] W (AsP W (akX all now y)) :=
        fun W c0 c1 c2 c3 c4 c5 hb hd => ih y c0 c1 c2 c3 c4 c5 v W hd hy0 (hv.below srR_mono hb)
      rw [akL_cons, akL_nil]
      show Calls _ _ _ _ (AsP w (grpR x.kd x.bs (akX all now y)))
      have hbs := by_asc hl0
      have hb10 := (byL_ok hl0).1
      rcases k3 with k | k | k
      · rw [k]; exact asked_grp3 _ y d x.bs now x.n x.wd u3 u4 u5 v w hb hx qum qv hbs hb10 hf.gd hlY hev
      · rw [k]; exact asked_grp4 _ y d x.bs now x.n x.wd u3 u4 u5 v w hb hx qum qv hbs hb10 hf.gd hlY hev
      · rw [k]; exact asked_grp5 _ y d x.bs now x.n x.wd u3 u4 u5 v w hb hx qum qv hbs hb10 hf.gd hlY hev
    · rw [if_neg k3]
      have k6 : x.kd = 6 ∨ x.kd = 7 ∨ x.kd = 8 := by
        unfold prtF at hk
        rw [if_neg (by omega), if_neg k3] at hk
        split at hk
        · assumption
        · omega
      have hl2 : x.xs.length = 2 := by
        have : prtF x.kd = 2 := by unfold prtF; rw [if_neg (by omega), if_neg k3, if_pos k6]
        omega
      obtain ⟨y, z, hy⟩ : ∃ y z, x.xs = [y, z] := by
        match x.xs, hl2 with
        | [y, z], _ => exact ⟨y, z, rfl⟩
      rw [hy] at hx ⊢
      have hy0 : chX y = 0 := chL_at (L := x.xs) (k := 0) hx0 (by rw [hy]; rfl)
      have hz0 : chX z = 0 := chL_at (L := x.xs) (k := 1) hx0 (by rw [hy]; rfl)
      obtain ⟨e, hf⟩ := ev_ak hA.ok now (szX y) y (Nat.le_refl _) hy0
      obtain ⟨e', hf'⟩ := ev_ak hA.ok now (szX z) z (Nat.le_refl _) hz0
      rw [← e] at hf
      rw [← e'] at hf'
      have hlY : (akX all now y).length ≤ 200 := by have := hf.len; omega
      have hlZ : (akX all now z).length ≤ 200 := by have := hf'.len; omega
      have hev : ∀ W c0 c1 c2 c3 c4 c5, Below w.heap.size w W → ExD d W y [c0, c1, c2, c3, c4, c5] → Calls Tryz.prog 32 #[.agg #[c0, c1, c2, c3, c4, c5], v, .int .i64 now] W (AsP W (akX all now y)) :=
        fun W c0 c1 c2 c3 c4 c5 hb hd => ih y c0 c1 c2 c3 c4 c5 v W hd hy0 (hv.below srR_mono hb)
      have hev' : ∀ W c0 c1 c2 c3 c4 c5, Below w.heap.size w W → ExD d W z [c0, c1, c2, c3, c4, c5] → Calls Tryz.prog 32 #[.agg #[c0, c1, c2, c3, c4, c5], v, .int .i64 now] W (AsP W (akX all now z)) :=
        fun W c0 c1 c2 c3 c4 c5 hb hd => ih z c0 c1 c2 c3 c4 c5 v W hd hz0 (hv.below srR_mono hb)
      rw [akL_cons, akL_cons, akL_nil]
      show Calls _ _ _ _ (AsP w (foldS (prsR x.kd (akX all now y) (akX all now z))))
      rcases k6 with k | k | k
      · rw [k]; exact asked_pr6 _ _ y z d now x.n x.wd u3 u4 u5 v w hx qum qub qv hf.gd hlY hf'.gd hlZ hev hev'
      · rw [k]; exact asked_pr7 _ _ y z d now x.n x.wd u3 u4 u5 v w hx qum qub qv hf.gd hlY hf'.gd hlZ hev hev'
      · rw [k]; exact asked_pr8 _ _ y z d now x.n x.wd u3 u4 u5 v w hx qum qub qv hf.gd hlY hf'.gd hlZ hev hev'
/-- What the document's way tells is what the program's way tells. -/
theorem asked_ev {all : List Srs} {now : Int} (hA : AllOk all now) (d : Nat) (x : Ex) (u0 u1 u2 u3 u4 u5 v : Value) (w : World) (h : ExD d w x [u0, u1, u2, u3, u4, u5]) (hc : chX x = 0) (hv : Sp SrR 2 w v all) :
    Calls Tryz.prog 32 #[.agg #[u0, u1, u2, u3, u4, u5], v, .int .i64 now] w (AsP w (evX all now x)) := by
  rw [← (ev_ak hA.ok now (szX x) x (Nat.le_refl _) hc).1]
  exact asked_any hA d x u0 u1 u2 u3 u4 u5 v w h hc hv
end Go.Proofs.YtjmplhkdohlbcaaGreatDoor.Evl
/-
  What the bound on the bulk of the arguments gives, and arguments opened under it.
-/
namespace Go.Gh
open Go.RowKit Go.ChangeShapes Go.WideShapes Go.ChangeAt Go.Joins Go.Proofs.YtjmplhkdohlbcaaGreatDoor
set_option linter.unusedVariables false

theorem bulk_one {H : Type} (d : DataW H) : 1 ≤ Rows.uptoBulk d := by
  cases d with
  | lit l => cases l <;> simp [Rows.uptoBulk]
  | nil => simp [Rows.uptoBulk]
  | ptr d => simp [Rows.uptoBulk]
  | slice elems spare => simp [Rows.uptoBulk]
  | agg parts => simp [Rows.uptoBulk]
  | iface t d => simp [Rows.uptoBulk]
  | map entries => simp [Rows.uptoBulk]
  | held h => simp [Rows.uptoBulk]
theorem bulk_part {H : Type} {d : DataW H} {l : List (DataW H)} (h : d ∈ l) : Rows.uptoBulk d ≤ Rows.uptoBulkAll l := by
  induction l with
  | nil => cases h
  | cons x r ih =>
    simp only [Rows.uptoBulkAll]
    cases List.mem_cons.1 h with
    | inl e => subst e; omega
    | inr e => have := ih e; omega
theorem bulk_len {H : Type} (l : List (DataW H)) : l.length ≤ Rows.uptoBulkAll l := by
  induction l with
  | nil => simp [Rows.uptoBulkAll]
  | cons x r ih => have := bulk_one x; simp only [Rows.uptoBulkAll, List.length_cons]; omega
theorem bulk_at {H : Type} {l : List (DataW H)} (hk : Rows.uptoSmall H l = true) {d : DataW H} (h : d ∈ l) : Rows.uptoBulk d ≤ 1048576 := by
  have h1 : Rows.uptoBulkAll l ≤ 1048576 := of_decide_eq_true hk
  exact Nat.le_trans (bulk_part h) h1

section
variable {H : Type} {enc : TypeId × Value → H} {P : Program} {W : World} {base b0 : Nat} {r : Reach} {spare : Nat → Bool} {held : Bool} {t e : TypeId} {k : IntKind} {v : Value} {d : DataW H} {ps : List MemPlace}
/-- A slice of integers that came in, as 'Sl', and its reading. -/
theorem sl_ints_b {fuel : Nat} {x : DataW H × List MemPlace} (ht : P.underlying t = some (.slice e)) (he : P.underlying e = some (.int k)) (hc : P.cellsOf e = 1)
    (h : DataW.trod enc P W base spare held fuel t [v] = some x) (hb : Rows.uptoBulk x.1 ≤ 1048576) :
    ∃ (n : Nat) (zs : List Int), Sl W 1 v n (zs.map (Value.int k)) ∧ (∀ z ∈ zs, (Lit.int k z).wf = true) ∧ n ≤ 1048576 := by
  rcases open_ints ht he hc h with ⟨hcs, _⟩ | ⟨a, len, cap, zs, hcs, _, hl, hm, hz, hx, hcell, hwz⟩
  · obtain rfl : v = .slice none 0 0 := by simpa using hcs
    exact ⟨0, [], ⟨none, 0, rfl, Nat.le_refl _, Nat.zero_le _, fun _ => rfl, by simp, fun h => absurd h (Nat.lt_irrefl _)⟩, by simp, by simp⟩
  · obtain rfl : v = .slice (some a) len cap := by simpa using hcs
    have hlz : len ≤ zs.length := by rw [hz]; split <;> omega
    refine ⟨len, zs.take len, ⟨some a, cap, rfl, hl, hm, fun h => by simp at h, by simp; omega, fun hn => ?_⟩, fun z hz' => hwz z (List.mem_of_mem_take hz'), ?_⟩
    · have h0 := hcell 0 (by omega)
      obtain ⟨b, off, spot⟩ := a
      have hs := World.cell?_spot h0
      simp [Addr.add] at hs
      subst hs
      refine ⟨b, off, rfl, fun i u hu => ?_⟩
      have hi : i < len := by
        rcases Nat.lt_or_ge i len with h' | h'
        · exact h'
        · rw [List.getElem?_eq_none (by simp; omega)] at hu; simp at hu
      have := hcell i (by omega)
      rw [addr_add] at this
      rw [this]
      have hi' : i < zs.length := by omega
      simp [List.getElem?_map, hi, List.getElem?_eq_getElem hi'] at hu
      rw [← hu, List.getD_eq_getElem?_getD, List.getElem?_eq_getElem hi']
      rfl
    · rw [hx] at hb
      simp only [Rows.uptoBulk] at hb
      have h1 := bulk_len (lits (H := H) k (zs.take len))
      simp [lits] at h1 hb
      omega
theorem isIntB_of (ht : P.underlying t = some (.int k)) (hv : Value.okWide P W r b0 t v) (hd : DataW.Trod enc P W base spare held t v d ps) (hb : Rows.uptoBulk d ≤ 1048576) : IsInt k W v := by
  obtain ⟨n, h1, _, _, h2⟩ := open_int ht hv hd
  exact ⟨n, h1, h2⟩
end
end Go.Gh
/-
  Slices of whatever elements that came in, under the bound on the bulk.
-/
namespace Go.Gh
open Go.RowKit Go.ChangeShapes Go.WideShapes Go.ChangeAt Go.Joins Go.Deep Go.Proofs.YtjmplhkdohlbcaaGreatDoor
set_option linter.unusedVariables false
section
variable {α : Type} {H : Type} {enc : TypeId × Value → H} {P : Program} {W : World} {base : Nat} {spare : Nat → Bool} {held : Bool} {R : World → α → List Value → Prop}
theorem sp_ofB {t e : TypeId} {k fuel M : Nat} {v : Value} {x : DataW H × List MemPlace} (inh : Inhabited α) (ht : P.underlying t = some (.slice e)) (hk : P.cellsOf e = k) (hpos : 0 < k)
    (hel : ∀ fuel cs x, DataW.trod enc P W base spare held fuel e cs = some x → cs.length = k → Rows.uptoBulk x.1 ≤ M → ∃ a, R W a cs)
    (h : DataW.trod enc P W base spare held fuel t [v] = some x) (hbk : Rows.uptoBulk x.1 ≤ M) : ∃ L : List α, Sp R k W v L ∧ L.length ≤ M := by
  rcases open_slice ht h with ⟨hcs, _⟩ | ⟨a, len, cap, m, n, D, Pl, hcs, hb, hl, hm, hmm, hx, hi'⟩
  · obtain rfl : v = .slice none 0 0 := by simpa using hcs
    exact ⟨[], Sp.nil, Nat.zero_le _⟩
  · obtain rfl : v = .slice (some a) len cap := by simpa using hcs
    have hlm : len ≤ m := by rw [hmm]; split <;> omega
    rw [hx] at hbk
    simp only [Rows.uptoBulk] at hbk
    have hlen : len ≤ M := by
      have := bulk_len ((List.range len).map D)
      rw [List.length_map, List.length_range] at this
      omega
    have each : ∀ i, i < len → ∃ p : α × List Value, p.2.length = k ∧ R W p.1 p.2 ∧ ∀ j u, p.2[j]? = some u → W.cell? (a.add (i * k + j)) = some u := by
      intro i hlt
      obtain ⟨cs', hc, ht'⟩ := hi' i (by omega)
      rw [hk] at hc
      obtain ⟨_, hcl, hat⟩ := World.cells?_some hc
      have hbi : Rows.uptoBulk (D i) ≤ M := by
        have h1 : D i ∈ (List.range len).map D := List.mem_map.2 ⟨i, by simpa using hlt, rfl⟩
        have := bulk_part h1
        omega
      obtain ⟨y, hy⟩ := hel _ _ _ ht' hcl hbi
      refine ⟨(y, cs'), hcl, hy, fun j u hu => ?_⟩
      have hj : j < k := by
        have h9 : j < cs'.length := (List.getElem?_eq_some_iff.1 hu).1
        have h10 : cs'.length = k := hcl
        omega
      have h2 := hat j hj
      rw [add_add] at h2
      rw [h2]
      exact hu
    haveI : Inhabited (α × List Value) := ⟨(inh.default, [])⟩
    obtain ⟨Q, hQ⟩ := choose_lt each
    have hL : ((List.range len).map Q).length = len := by simp
    have hPK : PK k ((List.range len).map Q) := by
      intro p hp
      obtain ⟨i, hi, rfl⟩ := List.mem_map.1 hp
      exact (hQ i (by simpa using hi)).1
    refine ⟨((List.range len).map Q).map (·.1), ⟨(List.range len).map Q, rfl, hPK, ?_, some a, cap, ?_, ?_, hm, fun h => by simp at h, ?_, fun hn => ?_⟩, ?_⟩
    · intro p hp
      obtain ⟨i, hi, rfl⟩ := List.mem_map.1 hp
      exact (hQ i (by simpa using hi)).2.1
    · rw [List.length_map, hL]
    · rw [List.length_map, hL]; exact hl
    · rw [pc_len hPK, List.length_map, List.length_map, List.length_map]
    · rw [List.length_map, hL] at hn
      obtain ⟨u0, hu0⟩ : ∃ u, (Q 0).2[0]? = some u := ⟨_, List.getElem?_eq_getElem (by rw [(hQ 0 hn).1]; exact hpos)⟩
      have h0 := (hQ 0 hn).2.2 0 u0 hu0
      obtain ⟨b, off, spot⟩ := a
      have hs := World.cell?_spot h0
      simp [Addr.add] at hs
      subst hs
      refine ⟨b, off, rfl, fun i u hu => ?_⟩
      have hidx : i < len * k := by
        rcases Nat.lt_or_ge i (len * k) with h' | h'
        · exact h'
        · rw [List.getElem?_eq_none (by rw [pc_len hPK, hL]; exact h')] at hu; simp at hu
      have hq : i / k < len := Nat.div_lt_of_lt_mul (by rw [Nat.mul_comm]; exact hidx)
      have hr : i % k < k := Nat.mod_lt _ hpos
      have hdm : i / k * k + i % k = i := by rw [Nat.mul_comm]; exact Nat.div_add_mod i k
      have hp : ((List.range len).map Q)[i / k]? = some (Q (i / k)) := by simp [hq]
      rw [← hdm, pc_get hPK hp hr] at hu
      have := (hQ (i / k) hq).2.2 (i % k) u hu
      rw [addr_add, hdm] at this
      exact this
    · rw [List.length_map, hL]; exact hlen
/-- The bulk of a struct's part. -/
theorem bulk_field {xs : List (DataW H × List MemPlace)} {y : DataW H × List MemPlace} {i M : Nat} (h : Rows.uptoBulk (DataW.agg (xs.map (·.1))) ≤ M) (hy : xs[i]? = some y) : Rows.uptoBulk y.1 ≤ M := by
  simp only [Rows.uptoBulk] at h
  have h1 : y.1 ∈ xs.map (·.1) := List.mem_map.2 ⟨y, List.mem_of_getElem? hy, rfl⟩
  have := bulk_part h1
  omega
end
end Go.Gh
/-
  Labels, matches and texts that came in, under the bound on the bulk; the table of signs as the row's list lays it.
-/
namespace Go.Proofs.YtjmplhkdohlbcaaGreatDoor.Lab
open Go.RowKit Go.Gh Go.WideShapes Go.ChangeShapes Go.ChangeAt Go.Deep Go.Joins
set_option linter.unusedVariables false
set_option linter.unusedSimpArgs false
set_option maxRecDepth 100000
def IsLbs (w : World) (v : Value) : Prop := ∃ L : List Lb, Sp LbR 2 w v L
def IsMts (w : World) (v : Value) : Prop := ∃ L : List Mt, Sp MtR 3 w v L
def IsTx (v : Value) : Prop := ∃ l : By, v = .string (mkS l) ∧ l.length ≤ 1048576
theorem gSig : Tryz.prog.globalNamed "gaugehouse/label.signs" = some 0 := by kernel_rfl
theorem gSigType : (Tryz.prog.globals[0]?).map (·.type) = some 115 := by kernel_rfl
theorem cellsSig : Tryz.prog.cellsOf 115 = 5 := by kernel_rfl
theorem cellsStr : Tryz.prog.cellsOf 9 = 1 := by kernel_rfl
theorem cellsInt : Tryz.prog.cellsOf 3 = 1 := by kernel_rfl
theorem cellsLb : Tryz.prog.cellsOf 75 = 2 := by kernel_rfl
theorem cellsMt : Tryz.prog.cellsOf 73 = 3 := by kernel_rfl
section
variable {H : Type} {enc : TypeId × Value → H} {W : World} {base b0 : Nat} {r : Reach} {spare : Nat → Bool} {held : Bool} {v : Value} {d : DataW H} {ps : List MemPlace}
theorem str_cell {fuel : Nat} {c : Value} {x : DataW H × List MemPlace} {l : By} (h : DataW.trod enc Tryz.prog W base spare held fuel 9 [c] = some x) (hx : x.1 = .lit (.string l)) : c = .string (mkS l) := by
  obtain ⟨s, e, rfl, _⟩ := DataW.trod_string Tryz.underlying9 h
  simp only [DataW.lit.injEq, Lit.string.injEq] at hx
  have e' : c = .string s := by simpa using e
  rw [e', of_mkS s, hx]
theorem stab_of_laid {W : World} {rest : List (String × DataW Unit)} (h : laidMet Tryz.prog (("gaugehouse/label.signs", Rows.laid_gaugehouse_label_signs) :: rest) W) : STab W := by
  obtain ⟨ps, ⟨g, t, cs, fuel, p, q, hg, ht, hvar, hd, _, _⟩, _⟩ := h
  obtain rfl := Option.some.inj (gSig.symm.trans hg)
  obtain rfl := Option.some.inj (gSigType.symm.trans ht)
  obtain ⟨xs, m, rfl, hx, hlen, hn, hel⟩ := DataW.trod_array Tryz.underlying115 hd
  obtain ⟨l⟩ := cs
  rw [cellsSig] at hlen
  rw [cellsStr] at hel
  simp only [Prod.mk.injEq] at hx
  have hx1 := hx.1
  simp only [Rows.laid_gaugehouse_label_signs, DataW.agg.injEq] at hx1
  match xs, hn, hx1 with
  | [x0, x1, x2, x3, x4], _, hx1 =>
    simp only [List.map_cons, List.map_nil, List.cons.injEq, and_true] at hx1
    obtain ⟨e0, e1, e2, e3, e4⟩ := hx1
    match l, hlen with
    | [c0, c1, c2, c3, c4], _ =>
      have r0 := str_cell (hel 0 (by decide)) e0.symm
      have r1 := str_cell (hel 1 (by decide)) e1.symm
      have r2 := str_cell (hel 2 (by decide)) e2.symm
      have r3 := str_cell (hel 3 (by decide)) e3.symm
      have r4 := str_cell (hel 4 (by decide)) e4.symm
      subst r0 r1 r2 r3 r4
      intro k hk
      have c := World.var?_cell hg hvar k
      have : k = 0 ∨ k = 1 ∨ k = 2 ∨ k = 3 ∨ k = 4 := by omega
      rcases this with rfl | rfl | rfl | rfl | rfl <;> exact c
theorem str_len {fuel : Nat} {c : Value} {x : DataW H × List MemPlace} (h : DataW.trod enc Tryz.prog W base spare held fuel 9 [c] = some x) (hb : Rows.uptoBulk x.1 ≤ 1048576) : ∃ l : By, c = .string (mkS l) ∧ l.length ≤ 1048576 := by
  obtain ⟨s, e, rfl, _⟩ := DataW.trod_string Tryz.underlying9 h
  simp only [Rows.uptoBulk] at hb
  exact ⟨s.data.toList, by rw [← of_mkS]; simpa using e, by omega⟩
theorem trod_lbB {fuel : Nat} {c0 c1 : Value} {x : DataW H × List MemPlace} (h : DataW.trod enc Tryz.prog W base spare held fuel 75 [c0, c1] = some x) (hb : Rows.uptoBulk x.1 ≤ 1048576) : ∃ y : Lb, LbR W y [c0, c1] := by
  obtain ⟨ys, n2, _, rfl, _, hyl, hfy⟩ := DataW.trod_struct Tryz.underlying75 h
  have hys : ys.length = 2 := hyl
  have g0 : DataW.trod enc Tryz.prog W base spare held n2 9 (([c0, c1].drop 0).take (Tryz.prog.cellsOf 9)) = ys[0]? := hfy 0 _ rfl
  have g1 : DataW.trod enc Tryz.prog W base spare held n2 9 (([c0, c1].drop 1).take (Tryz.prog.cellsOf 9)) = ys[1]? := hfy 1 _ rfl
  rw [cellsStr] at g0 g1
  simp only [List.drop, List.take] at g0 g1
  rw [List.getElem?_eq_getElem (by rw [hys]; decide)] at g0 g1
  obtain ⟨l0, rfl, h0⟩ := str_len g0 (bulk_field hb (List.getElem?_eq_getElem (l := ys) (i := 0) (by rw [hys]; decide)))
  obtain ⟨l1, rfl, h1⟩ := str_len g1 (bulk_field hb (List.getElem?_eq_getElem (l := ys) (i := 1) (by rw [hys]; decide)))
  exact ⟨⟨l0, l1⟩, rfl, by show l0.length ≤ _; omega, by show l1.length ≤ _; omega⟩
theorem trod_mtB {fuel : Nat} {c0 c1 c2 : Value} {x : DataW H × List MemPlace} (h : DataW.trod enc Tryz.prog W base spare held fuel 73 [c0, c1, c2] = some x) (hb : Rows.uptoBulk x.1 ≤ 1048576) : ∃ y : Mt, MtR W y [c0, c1, c2] := by
  obtain ⟨ys, n2, _, rfl, _, hyl, hfy⟩ := DataW.trod_struct Tryz.underlying73 h
  have hys : ys.length = 3 := hyl
  have g0 : DataW.trod enc Tryz.prog W base spare held n2 3 (([c0, c1, c2].drop 0).take (Tryz.prog.cellsOf 3)) = ys[0]? := hfy 0 _ rfl
  have g1 : DataW.trod enc Tryz.prog W base spare held n2 9 (([c0, c1, c2].drop 1).take (Tryz.prog.cellsOf 9)) = ys[1]? := hfy 1 _ rfl
  have g2 : DataW.trod enc Tryz.prog W base spare held n2 9 (([c0, c1, c2].drop 2).take (Tryz.prog.cellsOf 9)) = ys[2]? := hfy 2 _ rfl
  rw [cellsInt] at g0
  rw [cellsStr] at g1 g2
  simp only [List.drop, List.take] at g0 g1 g2
  rw [List.getElem?_eq_getElem (by rw [hys]; decide)] at g0 g1 g2
  obtain ⟨z, e0, _, w0⟩ := DataW.trod_int Tryz.underlying3 g0
  have e0' : c0 = .int .i64 z := by simpa using e0
  obtain ⟨l1, rfl, h1⟩ := str_len g1 (bulk_field hb (List.getElem?_eq_getElem (l := ys) (i := 1) (by rw [hys]; decide)))
  obtain ⟨l2, rfl, h2⟩ := str_len g2 (bulk_field hb (List.getElem?_eq_getElem (l := ys) (i := 2) (by rw [hys]; decide)))
  have hw := wf_i64 w0
  exact ⟨⟨z, l1, l2⟩, by rw [e0'], by show l1.length ≤ _; omega, by show l2.length ≤ _; omega, hw.1, hw.2⟩
theorem isLbsB_of (hv : Value.okWide Tryz.prog W r b0 22 v) (hd : DataW.Trod enc Tryz.prog W base spare held 22 v d ps) (hb : Rows.uptoBulk d ≤ 1048576) : IsLbs W v := by
  obtain ⟨a0, len, cap, rfl⟩ := okWide_slice Tryz.underlying22 hv
  obtain ⟨fuel, hf⟩ := hd
  have hf' : DataW.trod enc Tryz.prog W base spare held fuel 22 [.slice a0 len cap] = some (d, ps) := by simpa [Value.cells] using hf
  obtain ⟨L, hL, _⟩ := sp_ofB (R := LbR) (M := 1048576) ⟨⟨[], []⟩⟩ Tryz.underlying22 cellsLb (by decide) (fun fuel cs x h1 h2 h3 => by
    match cs, h2 with
    | [c0, c1], _ => exact trod_lbB h1 h3) hf' hb
  exact ⟨L, hL⟩
theorem isMtsB_of (hv : Value.okWide Tryz.prog W r b0 34 v) (hd : DataW.Trod enc Tryz.prog W base spare held 34 v d ps) (hb : Rows.uptoBulk d ≤ 1048576) : IsMts W v := by
  obtain ⟨a0, len, cap, rfl⟩ := okWide_slice Tryz.underlying34 hv
  obtain ⟨fuel, hf⟩ := hd
  have hf' : DataW.trod enc Tryz.prog W base spare held fuel 34 [.slice a0 len cap] = some (d, ps) := by simpa [Value.cells] using hf
  obtain ⟨L, hL, _⟩ := sp_ofB (R := MtR) (M := 1048576) ⟨⟨0, [], []⟩⟩ Tryz.underlying34 cellsMt (by decide) (fun fuel cs x h1 h2 h3 => by
    match cs, h2 with
    | [c0, c1, c2], _ => exact trod_mtB h1 h3) hf' hb
  exact ⟨L, hL⟩
theorem isTxB_of (hv : Value.okWide Tryz.prog W r b0 9 v) (hd : DataW.Trod enc Tryz.prog W base spare held 9 v d ps) (hb : Rows.uptoBulk d ≤ 1048576) : IsTx v := by
  obtain ⟨s, rfl⟩ := okWide_string Tryz.underlying9 hv
  obtain ⟨fuel, hf⟩ := hd
  have hf' : DataW.trod enc Tryz.prog W base spare held fuel 9 [.string s] = some (d, ps) := by simpa [Value.cells] using hf
  obtain ⟨l, e, h⟩ := str_len hf' hb
  exact ⟨l, e, h⟩
end
end Go.Proofs.YtjmplhkdohlbcaaGreatDoor.Lab
/-
  Series that came in, under the bound on the bulk.
-/
namespace Go.Proofs.YtjmplhkdohlbcaaGreatDoor.Evl
open Go.RowKit Go.Gh Go.WideShapes Go.ChangeShapes Go.ChangeAt Go.Deep Go.Joins Go.Proofs.YtjmplhkdohlbcaaGreatDoor.Lab
set_option linter.unusedVariables false
set_option linter.unusedSimpArgs false
set_option maxRecDepth 100000
/-- A sample's two cells. -/
def SmR (w : World) (r : List Int) (c : List Value) : Prop := c = r.map (Value.int .i64) ∧ r.length = 2 ∧ ∀ z ∈ r, (Lit.int .i64 z).wf = true
theorem pc_sm : ∀ {P : List (List Int × List Value)}, (∀ p ∈ P, p.2 = p.1.map (Value.int .i64)) → pc P = rowCells (P.map (·.1))
  | [], _ => rfl
  | p :: P, h => by
    rw [pc_cons, pc_sm (P := P) (fun q hq => h q (by simp [hq])), h p (by simp)]
    rfl
theorem sl_of_sm {w : World} {u : Value} {Q : List (List Int)} (h : Sp SmR 2 w u Q) : Sl w 2 u Q.length (rowCells Q) ∧ Rows64 2 Q := by
  obtain ⟨P, h1, h2, h3, h4⟩ := h
  rw [pc_sm (fun p hp => (h3 p hp).1), h1] at h4
  refine ⟨h4, fun r hr => ?_⟩
  rw [← h1] at hr
  obtain ⟨p, hp, rfl⟩ := List.mem_map.1 hr
  exact (h3 p hp).2
theorem cellsSm : Tryz.prog.cellsOf 101 = 2 := by kernel_rfl
theorem cellsSr : Tryz.prog.cellsOf 88 = 2 := by kernel_rfl
theorem cellsI6 : Tryz.prog.cellsOf 2 = 1 := by kernel_rfl
theorem cellsLbs : Tryz.prog.cellsOf 22 = 1 := by kernel_rfl
theorem cellsSms : Tryz.prog.cellsOf 86 = 1 := by kernel_rfl
section
variable {H : Type} {enc : TypeId × Value → H} {W : World} {base b0 : Nat} {r : Reach} {spare : Nat → Bool} {held : Bool} {v : Value} {d : DataW H} {ps : List MemPlace}
theorem trod_smB {fuel : Nat} {c0 c1 : Value} {x : DataW H × List MemPlace} (h : DataW.trod enc Tryz.prog W base spare held fuel 101 [c0, c1] = some x) : ∃ y : List Int, SmR W y [c0, c1] := by
  obtain ⟨ys, n2, _, rfl, _, hyl, hfy⟩ := DataW.trod_struct Tryz.underlying101 h
  have hys : ys.length = 2 := hyl
  have g0 : DataW.trod enc Tryz.prog W base spare held n2 2 (([c0, c1].drop 0).take (Tryz.prog.cellsOf 2)) = ys[0]? := hfy 0 _ rfl
  have g1 : DataW.trod enc Tryz.prog W base spare held n2 2 (([c0, c1].drop 1).take (Tryz.prog.cellsOf 2)) = ys[1]? := hfy 1 _ rfl
  rw [cellsI6] at g0 g1
  simp only [List.drop, List.take] at g0 g1
  rw [List.getElem?_eq_getElem (by rw [hys]; decide)] at g0 g1
  obtain ⟨a, e0, _, w0⟩ := DataW.trod_int Tryz.underlying2 g0
  obtain ⟨b, e1, _, w1⟩ := DataW.trod_int Tryz.underlying2 g1
  have e0' : c0 = .int .i64 a := by simpa using e0
  have e1' : c1 = .int .i64 b := by simpa using e1
  refine ⟨[a, b], by rw [e0', e1']; rfl, rfl, fun z hz => ?_⟩
  simp at hz
  rcases hz with rfl | rfl
  · exact w0
  · exact w1
theorem trod_srB {fuel : Nat} {c0 c1 : Value} {x : DataW H × List MemPlace} (h : DataW.trod enc Tryz.prog W base spare held fuel 88 [c0, c1] = some x) (hb : Rows.uptoBulk x.1 ≤ 1048576) : ∃ y : Srs, SrR W y [c0, c1] := by
  obtain ⟨ys, n2, _, rfl, _, hyl, hfy⟩ := DataW.trod_struct Tryz.underlying88 h
  have hys : ys.length = 2 := hyl
  have g0 : DataW.trod enc Tryz.prog W base spare held n2 22 (([c0, c1].drop 0).take (Tryz.prog.cellsOf 22)) = ys[0]? := hfy 0 _ rfl
  have g1 : DataW.trod enc Tryz.prog W base spare held n2 86 (([c0, c1].drop 1).take (Tryz.prog.cellsOf 86)) = ys[1]? := hfy 1 _ rfl
  rw [cellsLbs] at g0
  rw [cellsSms] at g1
  simp only [List.drop, List.take] at g0 g1
  have b0 := bulk_field hb (List.getElem?_eq_getElem (l := ys) (i := 0) (by rw [hys]; decide))
  have b1 := bulk_field hb (List.getElem?_eq_getElem (l := ys) (i := 1) (by rw [hys]; decide))
  rw [List.getElem?_eq_getElem (by rw [hys]; decide)] at g0 g1
  obtain ⟨L, hL, _⟩ := sp_ofB (R := LbR) (M := 1048576) ⟨⟨[], []⟩⟩ Tryz.underlying22 cellsLb (by decide) (fun fuel cs x h1 h2 h3 => by
    match cs, h2 with
    | [d0, d1], _ => exact trod_lbB h1 h3) g0 b0
  obtain ⟨Q, hQ, hQl⟩ := sp_ofB (R := SmR) (M := 1048576) ⟨[]⟩ Tryz.underlying86 cellsSm (by decide) (fun fuel cs x h1 h2 h3 => by
    match cs, h2 with
    | [d0, d1], _ => exact trod_smB h1) g1 b1
  obtain ⟨h1, h2⟩ := sl_of_sm hQ
  exact ⟨(L, Q), c0, c1, rfl, hL, h1, h2, by show Q.length ≤ _; omega⟩
def IsSrs (w : World) (v : Value) : Prop := ∃ all : List Srs, Sp SrR 2 w v all
theorem isSrsB_of (hv : Value.okWide Tryz.prog W r b0 55 v) (hd : DataW.Trod enc Tryz.prog W base spare held 55 v d ps) (hb : Rows.uptoBulk d ≤ 1048576) : IsSrs W v := by
  obtain ⟨a0, len, cap, rfl⟩ := okWide_slice Tryz.underlying55 hv
  obtain ⟨fuel, hf⟩ := hd
  have hf' : DataW.trod enc Tryz.prog W base spare held fuel 55 [.slice a0 len cap] = some (d, ps) := by simpa [Value.cells] using hf
  obtain ⟨L, hL, _⟩ := sp_ofB (R := SrR) (M := 1048576) ⟨([], [])⟩ Tryz.underlying55 cellsSr (by decide) (fun fuel cs x h1 h2 h3 => by
    match cs, h2 with
    | [c0, c1], _ => exact trod_srB h1 h3) hf' hb
  exact ⟨L, hL⟩
end
end Go.Proofs.YtjmplhkdohlbcaaGreatDoor.Evl
/-
  An expression that came in, under the bound on the bulk; the tables as the row's list lays them.
-/
namespace Go.Proofs.YtjmplhkdohlbcaaGreatDoor.Exp
open Go.RowKit Go.Gh Go.WideShapes Go.ChangeShapes Go.ChangeAt Go.Deep Go.Joins Go.Proofs.YtjmplhkdohlbcaaGreatDoor.Lab
set_option linter.unusedVariables false
set_option linter.unusedSimpArgs false
set_option maxRecDepth 100000
section
variable {H : Type} {enc : TypeId × Value → H} {W : World} {base b0 : Nat} {r : Reach} {spare : Nat → Bool} {held : Bool} {v : Value} {d : DataW H} {ps : List MemPlace}
theorem sum_bulk {α : Type} (f : α → Nat) (Q : Nat → α) (D : Nat → DataW H) : ∀ (l : List Nat), (∀ i ∈ l, f (Q i) ≤ Rows.uptoBulk (D i)) → ((l.map Q).map f).sum ≤ Rows.uptoBulkAll (l.map D)
  | [], _ => Nat.zero_le _
  | i :: l, h => by
    simp only [List.map_cons, List.sum_cons, Rows.uptoBulkAll]
    have h1 := h i (by simp)
    have h2 := sum_bulk f Q D l (fun j hj => h j (by simp [hj]))
    omega
/-- A slice that came in, with a weight of its elements that the bulk bounds. -/
theorem sp_ofW {α : Type} {R : World → α → List Value → Prop} {t e : TypeId} {k fuel M : Nat} {v : Value} {x : DataW H × List MemPlace} (f : α → Nat) (inh : Inhabited α) (ht : Tryz.prog.underlying t = some (.slice e)) (hk : Tryz.prog.cellsOf e = k) (hpos : 0 < k)
    (hel : ∀ fuel cs x, DataW.trod enc Tryz.prog W base spare held fuel e cs = some x → cs.length = k → Rows.uptoBulk x.1 ≤ M → ∃ a, R W a cs ∧ f a ≤ Rows.uptoBulk x.1)
    (h : DataW.trod enc Tryz.prog W base spare held fuel t [v] = some x) (hbk : Rows.uptoBulk x.1 ≤ M) : ∃ L : List α, Sp R k W v L ∧ L.length ≤ M ∧ (L.map f).sum ≤ Rows.uptoBulk x.1 := by
  rcases open_slice ht h with ⟨hcs, _⟩ | ⟨a, len, cap, m, n, D, Pl, hcs, hb, hl, hm, hmm, hx, hi'⟩
  · obtain rfl : v = .slice none 0 0 := by simpa using hcs
    exact ⟨[], Sp.nil, Nat.zero_le _, Nat.zero_le _⟩
  · obtain rfl : v = .slice (some a) len cap := by simpa using hcs
    have hlm : len ≤ m := by rw [hmm]; split <;> omega
    rw [hx] at hbk ⊢
    simp only [Rows.uptoBulk] at hbk ⊢
    have hlen : len ≤ M := by
      have := bulk_len ((List.range len).map D)
      rw [List.length_map, List.length_range] at this
      omega
    have each : ∀ i, i < len → ∃ p : α × List Value, p.2.length = k ∧ (R W p.1 p.2 ∧ f p.1 ≤ Rows.uptoBulk (D i)) ∧ ∀ j u, p.2[j]? = some u → W.cell? (a.add (i * k + j)) = some u := by
      intro i hlt
      obtain ⟨cs', hc, ht'⟩ := hi' i (by omega)
      rw [hk] at hc
      obtain ⟨_, hcl, hat⟩ := World.cells?_some hc
      have hbi : Rows.uptoBulk (D i) ≤ M := by
        have h1 : D i ∈ (List.range len).map D := List.mem_map.2 ⟨i, by simpa using hlt, rfl⟩
        have := bulk_part h1
        omega
      obtain ⟨y, hy⟩ := hel _ _ _ ht' hcl hbi
      refine ⟨(y, cs'), hcl, hy, fun j u hu => ?_⟩
      have hj : j < k := by
        have h9 : j < cs'.length := (List.getElem?_eq_some_iff.1 hu).1
        have h10 : cs'.length = k := hcl
        omega
      have h2 := hat j hj
      rw [add_add] at h2
      rw [h2]
      exact hu
    haveI : Inhabited (α × List Value) := ⟨(inh.default, [])⟩
    obtain ⟨Q, hQ⟩ := choose_lt each
    have hL : ((List.range len).map Q).length = len := by simp
    have hPK : PK k ((List.range len).map Q) := by
      intro p hp
      obtain ⟨i, hi, rfl⟩ := List.mem_map.1 hp
      exact (hQ i (by simpa using hi)).1
    refine ⟨((List.range len).map Q).map (·.1), ⟨(List.range len).map Q, rfl, hPK, ?_, some a, cap, ?_, ?_, hm, fun h => by simp at h, ?_, fun hn => ?_⟩, ?_, ?_⟩
    · intro p hp
      obtain ⟨i, hi, rfl⟩ := List.mem_map.1 hp
      exact (hQ i (by simpa using hi)).2.1.1
    · rw [List.length_map, hL]
    · rw [List.length_map, hL]; exact hl
    · rw [pc_len hPK, List.length_map, List.length_map, List.length_map]
    · rw [List.length_map, hL] at hn
      obtain ⟨u0, hu0⟩ : ∃ u, (Q 0).2[0]? = some u := ⟨_, List.getElem?_eq_getElem (by rw [(hQ 0 hn).1]; exact hpos)⟩
      have h0 := (hQ 0 hn).2.2 0 u0 hu0
      obtain ⟨b, off, spot⟩ := a
      have hs := World.cell?_spot h0
      simp [Addr.add] at hs
      subst hs
      refine ⟨b, off, rfl, fun i u hu => ?_⟩
      have hidx : i < len * k := by
        rcases Nat.lt_or_ge i (len * k) with h' | h'
        · exact h'
        · rw [List.getElem?_eq_none (by rw [pc_len hPK, hL]; exact h')] at hu; simp at hu
      have hq : i / k < len := Nat.div_lt_of_lt_mul (by rw [Nat.mul_comm]; exact hidx)
      have hr : i % k < k := Nat.mod_lt _ hpos
      have hdm : i / k * k + i % k = i := by rw [Nat.mul_comm]; exact Nat.div_add_mod i k
      have hp : ((List.range len).map Q)[i / k]? = some (Q (i / k)) := by simp [hq]
      rw [← hdm, pc_get hPK hp hr] at hu
      have := (hQ (i / k) hq).2.2 (i % k) u hu
      rw [addr_add, hdm] at this
      exact this
    · rw [List.length_map, hL]; exact hlen
    · have h1 := sum_bulk f (fun i => (Q i).1) D (List.range len) (fun i hi => (hQ i (by simpa using hi)).2.1.2)
      have e : ((List.range len).map Q).map (·.1) = (List.range len).map fun i => (Q i).1 := by rw [List.map_map]; rfl
      rw [e]
      omega
/-- The bulk of a struct's part is less. -/
theorem bulk_fieldS {xs : List (DataW H × List MemPlace)} {y : DataW H × List MemPlace} {i : Nat} (hy : xs[i]? = some y) : Rows.uptoBulk y.1 + 1 ≤ Rows.uptoBulk (DataW.agg (xs.map (·.1))) := by
  simp only [Rows.uptoBulk]
  have h1 : y.1 ∈ xs.map (·.1) := List.mem_map.2 ⟨y, List.mem_of_getElem? hy, rfl⟩
  have := bulk_part h1
  omega
theorem szL_sum : ∀ (L : List Ex), szL L = (L.map szX).sum
  | [] => by rw [szL_nil]; rfl
  | y :: r => by rw [szL_cons, szL_sum r]; rfl
theorem cellsEx : Tryz.prog.cellsOf 38 = 6 := by kernel_rfl
theorem cellsI64 : Tryz.prog.cellsOf 2 = 1 := by kernel_rfl
theorem cellsMs : Tryz.prog.cellsOf 34 = 1 := by kernel_rfl
theorem cellsBs : Tryz.prog.cellsOf 35 = 1 := by kernel_rfl
theorem cellsXs : Tryz.prog.cellsOf 36 = 1 := by kernel_rfl
theorem trod_ex : ∀ (m : Nat), m ≤ 1048576 → ∀ (fuel : Nat) (c0 c1 c2 c3 c4 c5 : Value) (x : DataW H × List MemPlace), DataW.trod enc Tryz.prog W base spare held fuel 38 [c0, c1, c2, c3, c4, c5] = some x → Rows.uptoBulk x.1 ≤ m → ∃ y, ExD m W y [c0, c1, c2, c3, c4, c5] ∧ szX y ≤ Rows.uptoBulk x.1
  | 0, _, fuel, c0, c1, c2, c3, c4, c5, x, _, hb => by have := bulk_one x.1; omega
  | m + 1, hm, fuel, c0, c1, c2, c3, c4, c5, x, h, hb => by
    obtain ⟨ys, n2, _, rfl, _, hyl, hfy⟩ := DataW.trod_struct Tryz.underlying38 h
    have hys : ys.length = 6 := hyl
    have hb' : Rows.uptoBulk (DataW.agg (ys.map (·.1))) ≤ m + 1 := hb
    have g0 : DataW.trod enc Tryz.prog W base spare held n2 3 (([c0, c1, c2, c3, c4, c5].drop 0).take (Tryz.prog.cellsOf 3)) = ys[0]? := hfy 0 _ rfl
    have g1 : DataW.trod enc Tryz.prog W base spare held n2 2 (([c0, c1, c2, c3, c4, c5].drop 1).take (Tryz.prog.cellsOf 2)) = ys[1]? := hfy 1 _ rfl
    have g2 : DataW.trod enc Tryz.prog W base spare held n2 2 (([c0, c1, c2, c3, c4, c5].drop 2).take (Tryz.prog.cellsOf 2)) = ys[2]? := hfy 2 _ rfl
    have g3 : DataW.trod enc Tryz.prog W base spare held n2 34 (([c0, c1, c2, c3, c4, c5].drop 3).take (Tryz.prog.cellsOf 34)) = ys[3]? := hfy 3 _ rfl
    have g4 : DataW.trod enc Tryz.prog W base spare held n2 35 (([c0, c1, c2, c3, c4, c5].drop 4).take (Tryz.prog.cellsOf 35)) = ys[4]? := hfy 4 _ rfl
    have g5 : DataW.trod enc Tryz.prog W base spare held n2 36 (([c0, c1, c2, c3, c4, c5].drop 5).take (Tryz.prog.cellsOf 36)) = ys[5]? := hfy 5 _ rfl
    rw [cellsInt] at g0
    rw [cellsI64] at g1 g2
    rw [cellsMs] at g3
    rw [cellsBs] at g4
    rw [cellsXs] at g5
    simp only [List.drop, List.take] at g0 g1 g2 g3 g4 g5
    have b3 := bulk_fieldS (List.getElem?_eq_getElem (l := ys) (i := 3) (by rw [hys]; decide))
    have b4 := bulk_fieldS (List.getElem?_eq_getElem (l := ys) (i := 4) (by rw [hys]; decide))
    have b5 := bulk_fieldS (List.getElem?_eq_getElem (l := ys) (i := 5) (by rw [hys]; decide))
    rw [List.getElem?_eq_getElem (by rw [hys]; decide)] at g0 g1 g2 g3 g4 g5
    obtain ⟨k, e0, _, w0⟩ := DataW.trod_int Tryz.underlying3 g0
    obtain ⟨n, e1, _, w1⟩ := DataW.trod_int Tryz.underlying2 g1
    obtain ⟨wd, e2, _, w2⟩ := DataW.trod_int Tryz.underlying2 g2
    have e0' : c0 = .int .i64 k := by simpa using e0
    have e1' : c1 = .int .i64 n := by simpa using e1
    have e2' : c2 = .int .i64 wd := by simpa using e2
    obtain ⟨ms, hms, _⟩ := sp_ofB (R := MtR) (M := 1048576) ⟨⟨0, [], []⟩⟩ Tryz.underlying34 cellsMt (by decide) (fun fuel cs x h1 h2 h3 => by
      match cs, h2 with
      | [d0, d1, d2], _ => exact trod_mtB h1 h3) g3 (by omega)
    obtain ⟨bs, hbs, hbl⟩ := sp_ofB (R := StrR) (M := 1048576) ⟨[]⟩ Tryz.underlying35 cellsStr (by decide) (fun fuel cs x h1 h2 h3 => by
      match cs, h2 with
      | [d0], _ =>
        obtain ⟨l, rfl, hl⟩ := str_len h1 h3
        exact ⟨l, rfl, hl⟩) g4 (by omega)
    obtain ⟨xs, hxs, _, hsum⟩ := sp_ofW (R := ExD m) (M := m) szX ⟨⟨0, 0, 0, [], [], []⟩⟩ Tryz.underlying36 cellsEx (by decide) (fun fuel cs x h1 h2 h3 => by
      match cs, h2 with
      | [d0, d1, d2, d3, d4, d5], _ => exact trod_ex m (by omega) fuel d0 d1 d2 d3 d4 d5 x h1 h3) g5 (by omega)
    have q0 := wf_i64 w0
    have q1 := wf_i64 w1
    have q2 := wf_i64 w2
    refine ⟨⟨k, n, wd, ms, bs, xs⟩, ⟨c3, c4, c5, by rw [e0', e1', e2']; rfl, hms, hbs, hxs, hbl, q0.1, q0.2, q1.1, q1.2, q2.1, q2.2⟩, ?_⟩
    rw [szX_eq]
    show 1 + szL xs ≤ Rows.uptoBulk (DataW.agg (ys.map (·.1)))
    rw [szL_sum]
    omega
def IsExB (w : World) (v : Value) : Prop := ∃ (m : Nat) (y : Ex) (c0 c1 c2 c3 c4 c5 : Value), v = .agg #[c0, c1, c2, c3, c4, c5] ∧ ExD m w y [c0, c1, c2, c3, c4, c5] ∧ szX y ≤ 1048576
theorem isExB_of (hv : Value.okWide Tryz.prog W r b0 38 v) (hd : DataW.Trod enc Tryz.prog W base spare held 38 v d ps) (hb : Rows.uptoBulk d ≤ 1048576) : IsExB W v := by
  obtain ⟨cs, rfl, hsz⟩ := okWide_struct Tryz.underlying38 hv
  obtain ⟨l⟩ := cs
  match l, hsz.trans cellsEx with
  | [c0, c1, c2, c3, c4, c5], _ =>
    obtain ⟨fuel, hf⟩ := hd
    have hf' : DataW.trod enc Tryz.prog W base spare held fuel 38 [c0, c1, c2, c3, c4, c5] = some (d, ps) := by simpa [Value.cells] using hf
    obtain ⟨y, h1, h2⟩ := trod_ex 1048576 (Nat.le_refl _) fuel c0 c1 c2 c3 c4 c5 (d, ps) hf' hb
    exact ⟨1048576, y, c0, c1, c2, c3, c4, c5, rfl, h1, Nat.le_trans h2 hb⟩
end
theorem laid_tail {a : String × DataW Unit} {rest : List (String × DataW Unit)} {W : World} (h : laidMet Tryz.prog (a :: rest) W) : laidMet Tryz.prog rest W := by
  obtain ⟨ps, ⟨g, t, cs, fuel, p, q, hg, ht, hv, hd, hr, rfl⟩, hn, ha⟩ := h
  exact ⟨q, hr, (List.nodup_append.1 hn).2.1, fun b off hm => ha b off (List.mem_append_right _ hm)⟩
theorem gWd : Tryz.prog.globalNamed "gaugehouse/expr.words" = some 1 := by kernel_rfl
theorem gWdType : (Tryz.prog.globals[1]?).map (·.type) = some 119 := by kernel_rfl
theorem cellsWd : Tryz.prog.cellsOf 119 = 9 := by kernel_rfl
theorem wtab_of_laid {W : World} {rest : List (String × DataW Unit)} (h : laidMet Tryz.prog (("gaugehouse/expr.words", Rows.laid_gaugehouse_expr_words) :: rest) W) : WTab W := by
  obtain ⟨ps, ⟨g, t, cs, fuel, p, q, hg, ht, hvar, hd, _, _⟩, _⟩ := h
  obtain rfl := Option.some.inj (gWd.symm.trans hg)
  obtain rfl := Option.some.inj (gWdType.symm.trans ht)
  obtain ⟨xs, m, rfl, hx, hlen, hn, hel⟩ := DataW.trod_array Tryz.underlying119 hd
  obtain ⟨l⟩ := cs
  rw [cellsWd] at hlen
  rw [cellsStr] at hel
  simp only [Prod.mk.injEq] at hx
  have hx1 := hx.1
  simp only [Rows.laid_gaugehouse_expr_words, DataW.agg.injEq] at hx1
  match xs, hn, hx1 with
  | [x0, x1, x2, x3, x4, x5, x6, x7, x8], _, hx1 =>
    simp only [List.map_cons, List.map_nil, List.cons.injEq, and_true] at hx1
    obtain ⟨e0, e1, e2, e3, e4, e5, e6, e7, e8⟩ := hx1
    match l, hlen with
    | [c0, c1, c2, c3, c4, c5, c6, c7, c8], _ =>
      have r0 := str_cell (hel 0 (by decide)) e0.symm
      have r1 := str_cell (hel 1 (by decide)) e1.symm
      have r2 := str_cell (hel 2 (by decide)) e2.symm
      have r3 := str_cell (hel 3 (by decide)) e3.symm
      have r4 := str_cell (hel 4 (by decide)) e4.symm
      have r5 := str_cell (hel 5 (by decide)) e5.symm
      have r6 := str_cell (hel 6 (by decide)) e6.symm
      have r7 := str_cell (hel 7 (by decide)) e7.symm
      have r8 := str_cell (hel 8 (by decide)) e8.symm
      subst r0 r1 r2 r3 r4 r5 r6 r7 r8
      intro k hk
      have c := World.var?_cell hg hvar k
      have : k = 0 ∨ k = 1 ∨ k = 2 ∨ k = 3 ∨ k = 4 ∨ k = 5 ∨ k = 6 ∨ k = 7 ∨ k = 8 := by omega
      rcases this with rfl | rfl | rfl | rfl | rfl | rfl | rfl | rfl | rfl <;> exact c
theorem ptab_of_laid {W : World} {rest : List (String × DataW Unit)} (h : laidMet Tryz.prog (("internal/strconv.uint64pow10", Rows.laid_internal_strconv_uint64pow10) :: rest) W) : PTab W :=
  Lib.tabIs_of_head (g := 3) (t := 216) (e := 104) (n := 20) (by kernel_rfl) (by kernel_rfl) Tryz.underlying216 Tryz.underlying104 (by kernel_rfl) (by kernel_rfl) h
section
variable {W : World} {a b c e : String × DataW Unit} {rest : List (String × DataW Unit)}
theorem stab5 (h : laidMet Tryz.prog (a :: b :: c :: ("gaugehouse/label.signs", Rows.laid_gaugehouse_label_signs) :: rest) W) : STab W := stab_of_laid (laid_tail (laid_tail (laid_tail h)))
theorem wtab5 (h : laidMet Tryz.prog (a :: b :: c :: e :: ("gaugehouse/expr.words", Rows.laid_gaugehouse_expr_words) :: rest) W) : WTab W := wtab_of_laid (laid_tail (laid_tail (laid_tail (laid_tail h))))
theorem ptab5 (h : laidMet Tryz.prog (a :: b :: ("internal/strconv.uint64pow10", Rows.laid_internal_strconv_uint64pow10) :: rest) W) : PTab W := ptab_of_laid (laid_tail (laid_tail h))
end
end Go.Proofs.YtjmplhkdohlbcaaGreatDoor.Exp
/-
  'gaugehouselaw.ExprEvals': the walk of the law.
-/
namespace Go.Proofs.YtjmplhkdohlbcaaGreatDoor.ExprEvals
open Go.RowKit Go.Gh Go.Gh.Clr Go.WideShapes Go.Proofs.YtjmplhkdohlbcaaGreatDoor.Lab Go.Proofs.YtjmplhkdohlbcaaGreatDoor.Exp Go.Proofs.YtjmplhkdohlbcaaGreatDoor.Evl
set_option linter.unusedVariables false
set_option linter.unusedSimpArgs false
def badT (T : Int) : Prop := T < -1152921504606846976 ∨ 1152921504606846976 < T
instance (T : Int) : Decidable (badT T) := by unfold badT; exact inferInstance
set_option maxRecDepth 100000 in
theorem goode_any (T : Int) (w : World) : Calls Tryz.prog 29 #[.int .i64 T] w fun e w' => e = .returned (.bool (!decide (badT T))) ∧ w = w' := by
  by_cases h1 : T < -1152921504606846976
  · have e : decide (badT T) = true := decide_eq_true (Or.inl h1)
    rw [e]
    have t1 : ¬ (-1152921504606846976 ≤ T) := by omega
    have t2 : decide (T ≥ -1152921504606846976) = false := decide_eq_false (by omega)
    have t3 : decide (-1152921504606846976 ≤ T) = false := decide_eq_false (by omega)
    go_enter Tryz.func29, Tryz.ntmps29
    go_wp2
    go_ret
    exact ⟨rfl, rfl⟩
  · have t1 : -1152921504606846976 ≤ T := by omega
    have t2 : decide (T ≥ -1152921504606846976) = true := decide_eq_true (by omega)
    have t3 : decide (-1152921504606846976 ≤ T) = true := decide_eq_true (by omega)
    by_cases h2 : 1152921504606846976 < T
    · have e : decide (badT T) = true := decide_eq_true (Or.inr h2)
      rw [e]
      have t4 : decide (T ≤ 1152921504606846976) = false := decide_eq_false (by omega)
      go_enter Tryz.func29, Tryz.ntmps29
      go_wp2
      go_ret
      exact ⟨by simp [t4], rfl⟩
    · have e : decide (badT T) = false := decide_eq_false (by unfold badT; omega)
      rw [e]
      have t4 : decide (T ≤ 1152921504606846976) = true := decide_eq_true (by omega)
      go_enter Tryz.func29, Tryz.ntmps29
      go_wp2
      go_ret
      exact ⟨by simp [t4], rfl⟩
theorem evl_zero {all : List Srs} {now : Int} {x : Ex} (h1 : exF x = 0) (h2 : serF all = 0) : evlF all now x = if badT now then 6 else 0 := by
  obtain ⟨h3, h4, h5⟩ := ser_zero h2
  unfold evlF
  rw [if_neg (by rw [h1]; decide), if_neg h3, if_neg (by rw [h4]; decide), if_neg (by simpa using h5)]
  rfl
theorem allok_of {all : List Srs} {now : Int} (h2 : serF all = 0) (h : ¬ badT now) : AllOk all now := by
  obtain ⟨h3, h4, h5⟩ := ser_zero h2
  unfold badT at h
  exact ⟨srsok_of (goS_ok.1 h4) h5, goS_ok.1 h4, by omega, by omega, by omega⟩
theorem evp_err {all : List Srs} {now E : Int} {x : Ex} {w w' : World} {e : Ending} (h : EvP all now x w e w') (hE : evlF all now x = E) (h0 : E ≠ 0) : e = .returned (.tuple #[.slice none 0 0, .int .i64 E]) ∧ Below w.heap.size w w' := by
  obtain ⟨hb, h1 | h1⟩ := h
  · exact ⟨by rw [h1.2, hE], hb⟩
  · rw [hE] at h1; exact absurd h1.1 h0
theorem evp_ok {all : List Srs} {now : Int} {x : Ex} {w w' : World} {e : Ending} (h : EvP all now x w e w') (hE : evlF all now x = 0) : ∃ v, e = .returned (.tuple #[v, .int .i64 0]) ∧ Sp RdR 2 w' v (evX all now x) ∧ Below w.heap.size w w' := by
  obtain ⟨hb, h1 | h1⟩ := h
  · exact absurd hE h1.1
  · obtain ⟨-, v, e, hs⟩ := h1
    exact ⟨v, e, hs, hb⟩
set_option maxHeartbeats 16000000 in
set_option maxRecDepth 100000 in
theorem walk (v0 v1 v2 : Value) (w : World) (h0 : IsExB w v0) (h1 : IsSrs w v1) (h2 : IsInt .i64 w v2) (hT : STab w) (hM : MTab w) :
    Calls Tryz.prog 6 #[v0, v1, v2] w fun e w' => e = .returned (.bool true) ∧ Below w.heap.size w w' := by
  obtain ⟨d, x, u0, u1, u2, u3, u4, u5, rfl, h, hz⟩ := h0
  obtain ⟨all, hv⟩ := h1
  obtain ⟨now, rfl, hwf⟩ := h2
  obtain ⟨k0, k1, k2, am, lm, cm, ab, lb, cb, ax, lx, cx, hsh⟩ := exD_shape h
  simp only [List.cons.injEq, and_true] at hsh
  obtain ⟨rfl, rfl, rfl, rfl, rfl, rfl⟩ := hsh
  obtain ⟨n, hn⟩ : ∃ n, all.length = n := ⟨_, rfl⟩
  obtain ⟨ao, c, rfl, hnc, hc⟩ := hv.shapeN hn
  obtain ⟨wa, hwa, hbox, hba, hsa⟩ := box_ex w (.int .i64 k0) (.int .i64 k1) (.int .i64 k2) (.slice am lm cm) (.slice ab lb cb) (.slice ax lx cx)
  have HEV := Lib.hid (evalT_any all now x d _ _ _ _ _ _ (.slice ao n c) wa (exD_mono d _ _ _ _ h hba) hz (hv.below srR_mono hba) (hT.below hba) (by obtain ⟨q, hq⟩ := hM; exact ⟨q, (hba.cell (p := ⟨_, 0, none⟩) (cell_lt hq)).trans hq⟩))
  have HFL := Lib.hid (fun W (hb : Below w.heap.size w W) => faultT_any d x _ _ _ _ _ _ W (exD_mono d _ _ _ _ h hb) hz)
  have HSF := Lib.hid (fun W (hb : Below w.heap.size w W) => serfault_any all (.slice ao n c) W (hv.below srR_mono hb))
  have HPT := Lib.hid (fun W (hb : Below w.heap.size w W) => partsL_any d x _ _ _ _ _ _ W (exD_mono d _ _ _ _ h hb) hz)
  have HAS := Lib.hid (fun W (hb : Below w.heap.size w W) (hA : AllOk all now) (hc : chX x = 0) => asked_ev hA d x _ _ _ _ _ _ (.slice ao n c) W (exD_mono d _ _ _ _ h hb) hc (hv.below srR_mono hb))
  obtain ⟨F, hF⟩ : ∃ F, exF x = F := ⟨_, rfl⟩
  obtain ⟨G, hG⟩ : ∃ G, serF all = G := ⟨_, rfl⟩
  rw [hF] at HFL
  rw [hG] at HSF
  have HF := Lib.hid (And.intro hF hG)
  have HN := Lib.hid hn
  have HWA := Lib.hid hwa
  have HBA := Lib.hid hba
  have HX := Lib.hid hbox
  have HB0 := Lib.hid (Below.refl w.heap.size w)
  obtain ⟨⟨d0, d1, d2, d3, d4, d5⟩, -⟩ := bx6 hbox
  clear h hz hv hT hM hF hG hn hwa hbox hba hsa hwf
  by_cases hearly : 12 < n ∧ n ≤ 200
  · have t1 : decide ((12 : Int) < (n : Int)) = true := decide_eq_true (by omega)
    have t2 : decide ((n : Int) ≤ 200) = true := decide_eq_true (by omega)
    have t3 : decide (12 < n) = true := decide_eq_true (by omega)
    have t4 : decide (n ≤ 200) = true := decide_eq_true (by omega)
    clear hearly
    go_enter Tryz.func6, Tryz.ntmps6
    go_upto_region 1 with (fail)
    rw [← HWA.out]
    generalize hbx : w.heap.size = bx at *
    go_wp2_with fail
    go_ret
    exact ⟨rfl, by first | exact HBA.out | (rw [hbx]; exact HBA.out)⟩
  go_enter Tryz.func6, Tryz.ntmps6
  go_upto_region 1 with (fail)
  rw [← HWA.out]
  generalize hbx : w.heap.size = bx at *
  go_cut [17] (fun t wx => t = .bool false ∧ wa = wx)
  case first =>
    by_cases h12 : 12 < n
    · have t1 : decide (12 < n) = true := decide_eq_true h12
      have t2 : decide (n ≤ 200) = false := decide_eq_false (by omega)
      have t3 : decide ((12 : Int) < (n : Int)) = true := decide_eq_true (by omega)
      have t4 : decide ((n : Int) ≤ 200) = false := decide_eq_false (by omega)
      clear hearly
      go_wp2_with fail
      go_meet
      exact ⟨rfl, rfl⟩
    · have t1 : decide (12 < n) = false := decide_eq_false h12
      have t3 : decide ((12 : Int) < (n : Int)) = false := decide_eq_false (by omega)
      clear hearly
      go_wp2_with fail
      go_meet
      exact ⟨rfl, rfl⟩
  obtain ⟨rfl, hwx⟩ := hcut
  subst hwx
  clear hearly
  have hbl : bx < wa.heap.size := (Array.getElem?_eq_some_iff.1 HX.out).1
  by_cases hf : F = 0
  case neg =>
    have HE : Hid (evlF all now x = F) := Lib.hid (by unfold evlF; rw [if_pos (by rw [HF.out.1]; exact hf), HF.out.1])
    have t1 : (F == 0) = false := beq_eq_false_iff_ne.2 hf
    have t2 : (F != 0) = true := by rw [bne_iff_ne]; exact hf
    go_wp2_with fail
    refine HEV.out.mono ?_
    intro e w2 hP
    obtain ⟨rfl, hb2⟩ := evp_err hP HE.out hf
    have HB2 := Lib.hid (HBA.out.trans (hb2.mono (show _ from by have := HBA.out.size; first | exact this | (rw [← hbx]; exact this))))
    obtain ⟨⟨e0, e1, e2, e3, e4, e5⟩, -⟩ := bx6 ((hb2.block bx hbl).trans HX.out)
    have HFL2 := Lib.hid (HFL.out w2 HB2.out)
    clear hP hb2 d0 d1 d2 d3 d4 d5 hf
    go_wp2_with fail
    refine HFL2.out.mono ?_
    rintro e w3 ⟨rfl, hb3⟩
    go_wp2_with fail
    go_ret
    exact ⟨by simp, by have h := HB2.out.trans (hb3.mono (show _ from by have := HB2.out.size; first | exact this | (rw [← hbx]; exact this))); first | exact h | (rw [hbx]; exact h)⟩
  subst hf
  by_cases hg : G = 0
  case neg =>
    have HE : Hid (evlF all now x = G) := Lib.hid (by rw [ser_evl HF.out.1 (by rw [HF.out.2]; exact hg), HF.out.2])
    have t1 : (G == 0) = false := beq_eq_false_iff_ne.2 hg
    have t2 : (G != 0) = true := by rw [bne_iff_ne]; exact hg
    go_wp2_with fail
    refine HEV.out.mono ?_
    intro e w2 hP
    obtain ⟨rfl, hb2⟩ := evp_err hP HE.out hg
    have HB2 := Lib.hid (HBA.out.trans (hb2.mono (show _ from by have := HBA.out.size; first | exact this | (rw [← hbx]; exact this))))
    obtain ⟨⟨e0, e1, e2, e3, e4, e5⟩, -⟩ := bx6 ((hb2.block bx hbl).trans HX.out)
    have HFL2 := Lib.hid (HFL.out w2 HB2.out)
    clear hP hb2 d0 d1 d2 d3 d4 d5 hg
    go_wp2_with fail
    refine HFL2.out.mono ?_
    rintro e w3 ⟨rfl, hb3⟩
    have HB3 := Lib.hid (HB2.out.trans (hb3.mono (show _ from by have := HB2.out.size; first | exact this | (rw [← hbx]; exact this))))
    have HSF3 := Lib.hid (HSF.out w3 HB3.out)
    clear hb3
    go_wp2_with fail
    refine HSF3.out.mono ?_
    rintro e w4 ⟨rfl, hb4⟩
    go_wp2_with fail
    go_ret
    exact ⟨by simp, by have h := HB3.out.trans (hb4.mono (show _ from by have := HB3.out.size; first | exact this | (rw [← hbx]; exact this))); first | exact h | (rw [hbx]; exact h)⟩
  subst hg
  by_cases hbt : badT now
  case pos =>
    have HE : Hid (evlF all now x = 6) := Lib.hid (by rw [evl_zero HF.out.1 HF.out.2, if_pos hbt])
    have HGT := Lib.hid (fun W => goode_any now W)
    rw [decide_eq_true hbt] at HGT
    go_wp2_with fail
    refine HEV.out.mono ?_
    intro e w2 hP
    obtain ⟨rfl, hb2⟩ := evp_err hP HE.out (by decide)
    have HB2 := Lib.hid (HBA.out.trans (hb2.mono (show _ from by have := HBA.out.size; first | exact this | (rw [← hbx]; exact this))))
    obtain ⟨⟨e0, e1, e2, e3, e4, e5⟩, -⟩ := bx6 ((hb2.block bx hbl).trans HX.out)
    have HFL2 := Lib.hid (HFL.out w2 HB2.out)
    clear hP hb2 d0 d1 d2 d3 d4 d5 hbt
    go_wp2_with fail
    refine HFL2.out.mono ?_
    rintro e w3 ⟨rfl, hb3⟩
    have HB3 := Lib.hid (HB2.out.trans (hb3.mono (show _ from by have := HB2.out.size; first | exact this | (rw [← hbx]; exact this))))
    have HSF3 := Lib.hid (HSF.out w3 HB3.out)
    clear hb3
    go_wp2_with fail
    refine HSF3.out.mono ?_
    rintro e w4 ⟨rfl, hb4⟩
    have HB4 := Lib.hid (HB3.out.trans (hb4.mono (show _ from by have := HB3.out.size; first | exact this | (rw [← hbx]; exact this))))
    clear hb4
    go_wp2_with (go_at_call 29; refine (HGT.out _).mono ?_; rintro e w5 ⟨rfl, rfl⟩)
    go_ret
    exact ⟨by simp, by first | exact HB4.out | (rw [hbx]; exact HB4.out)⟩
  have HE : Hid (evlF all now x = 0) := Lib.hid (by rw [evl_zero HF.out.1 HF.out.2, if_neg hbt])
  have HAO := Lib.hid (allok_of HF.out.2 hbt)
  have HCX := Lib.hid (exF_ok HF.out.1).2
  have HGT := Lib.hid (fun W => goode_any now W)
  rw [decide_eq_false hbt] at HGT
  go_wp2_with fail
  refine HEV.out.mono ?_
  intro e w2 hP
  obtain ⟨v2, rfl, hs2, hb2⟩ := evp_ok hP HE.out
  obtain ⟨o2, c2, rfl, -, -⟩ := hs2.shape
  have hlX : (evX all now x).length ≤ 1000000 := by
    have h := (ev_ak HAO.out.ok now (szX x) x (Nat.le_refl _) HCX.out).2.len
    have := HAO.out.len
    omega
  have HS2 := Lib.hid hs2
  have HB2 := Lib.hid (HBA.out.trans (hb2.mono (show _ from by have := HBA.out.size; first | exact this | (rw [← hbx]; exact this))))
  obtain ⟨⟨e0, e1, e2, e3, e4, e5⟩, -⟩ := bx6 ((hb2.block bx hbl).trans HX.out)
  have HX2 := Lib.hid ((hb2.block bx hbl).trans HX.out)
  have HFL2 := Lib.hid (HFL.out w2 HB2.out)
  have HLX := Lib.hid hlX
  clear hP hb2 hs2 d0 d1 d2 d3 d4 d5 hbt hlX
  go_wp2_with fail
  refine HFL2.out.mono ?_
  rintro e w3 ⟨rfl, hb3⟩
  have HB3 := Lib.hid (HB2.out.trans (hb3.mono (show _ from by have := HB2.out.size; first | exact this | (rw [← hbx]; exact this))))
  have HS3 := Lib.hid (HS2.out.below rdR_mono hb3)
  have HX3 := Lib.hid ((hb3.block bx (Array.getElem?_eq_some_iff.1 HX2.out).1).trans HX2.out)
  have HSF3 := Lib.hid (HSF.out w3 HB3.out)
  clear hb3 e0 e1 e2 e3 e4 e5
  go_wp2_with fail
  refine HSF3.out.mono ?_
  rintro e w4 ⟨rfl, hb4⟩
  have HB4 := Lib.hid (HB3.out.trans (hb4.mono (show _ from by have := HB3.out.size; first | exact this | (rw [← hbx]; exact this))))
  have HS4 := Lib.hid (HS3.out.below rdR_mono hb4)
  have HX4 := Lib.hid ((hb4.block bx (Array.getElem?_eq_some_iff.1 HX3.out).1).trans HX3.out)
  obtain ⟨⟨e0, e1, e2, e3, e4, e5⟩, -⟩ := bx6 HX4.out
  have HPT4 := Lib.hid (HPT.out w4 HB4.out)
  clear hb4
  obtain ⟨sz, hsz⟩ : ∃ s, szX x = s := ⟨_, rfl⟩
  rw [hsz] at HPT4
  clear hsz
  have HLS : Hid ((evX all now x).length = (evX all now x).length) := Lib.hid rfl
  obtain ⟨S, hS⟩ : ∃ S, evX all now x = S := ⟨_, rfl⟩
  rw [hS] at HS4 HAS HLX
  rw [hS]
  obtain ⟨sl, hsl⟩ : ∃ n, S.length = n := ⟨_, rfl⟩
  rw [hsl] at HS4 ⊢
  have HSL := Lib.hid hsl
  clear hS hsl HS3 HS2 HLS
  by_cases h15 : 15 < sz
  · have t1 : (15 : Int) < (sz : Int) := by omega
    go_wp2_with (first
      | (go_at_call 29; refine (HGT.out _).mono ?_; rintro e w5 ⟨rfl, rfl⟩)
      | (go_at_call 30; refine HPT4.out.mono ?_; rintro e w5 ⟨rfl, hb5⟩; have HB5 := Lib.hid hb5; clear hb5))
    go_ret
    exact ⟨rfl, by have h := HB4.out.trans (HB5.out.mono (show _ from by have := HB4.out.size; first | exact this | (rw [← hbx]; exact this))); first | exact h | (rw [hbx]; exact h)⟩
  have t1 : ¬ ((15 : Int) < (sz : Int)) := by omega
  clear h15
  go_wp2_with (first
    | (go_at_call 29; refine (HGT.out _).mono ?_; rintro e w5 ⟨rfl, rfl⟩)
    | (go_at_call 30; refine HPT4.out.mono ?_; rintro e w5 ⟨rfl, hb5⟩; have HB5 := Lib.hid (HB4.out.trans (hb5.mono (show _ from by have := HB4.out.size; first | exact this | (rw [← hbx]; exact this)))); have HS5 := Lib.hid (HS4.out.below rdR_mono hb5); obtain ⟨⟨q0, q1, q2, q3, q4, q5⟩, -⟩ := bx6 ((hb5.block bx (Array.getElem?_eq_some_iff.1 HX4.out).1).trans HX4.out); have HAS5 := Lib.hid (HAS.out w5 HB5.out HAO.out HCX.out); clear hb5)
    | (go_at_call 32; refine HAS5.out.mono ?_; rintro e w6 ⟨v6, rfl, hs6, hb6⟩; have HS6 := Lib.hid (HS5.out.below rdR_mono hb6); have HT6 := Lib.hid hs6; have HB6 := Lib.hid (HB5.out.trans (hb6.mono (show _ from by have := HB5.out.size; first | exact this | (rw [← hbx]; exact this)))); clear hb6 hs6)
    | (go_at_call 31; refine (samerows_any _ _ S w6 HS6.out HT6.out HLX.out).mono ?_; rintro e w7 ⟨rfl, hb7⟩; have HB7 := Lib.hid (HB6.out.trans (hb7.mono (show _ from by have := HB6.out.size; first | exact this | (rw [← hbx]; exact this)))); clear hb7))
  go_ret
  exact ⟨by simp, by first | exact HB7.out | (rw [hbx]; exact HB7.out)⟩
end Go.Proofs.YtjmplhkdohlbcaaGreatDoor.ExprEvals
/-
  The library's variable holds some number, in a world that is as the start left it.
-/
namespace Go.Proofs.YtjmplhkdohlbcaaGreatDoor.Lab
open Go.RowKit Go.Gh
set_option maxRecDepth 100000
theorem mtab_of_shaped {W : World} (h : W.ShapedOpen Tryz.prog) : MTab W :=
  Go.Proofs.cell_of_shapedOpen_int (zero := #[.int .i64 0]) (t := 3) h (of_decide_eq_true (by kernel_rfl)) (by kernel_rfl) rfl (by kernel_rfl) (by kernel_rfl) Tryz.underlying3
end Go.Proofs.YtjmplhkdohlbcaaGreatDoor.Lab
