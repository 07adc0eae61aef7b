/-
  Sieves: Clone and Compact at uint64.
-/
import Derived.Test.YtlfhcjhbnakamaaIz6
import Derived.Test.YtlfhcjhbnakamaaIz9
import Derived.Test.YtlfhcjhbnakamaaIz13
import Derived.Lib.SmallJoins
import Derived.Lib.SliceRun
import Derived.Lib.SlicesCompact
import Derived.Deep.RegionHeld3
import Derived.IntWalk
namespace Go.Proofs.Ytlfhcjhbnakamaa.Lst
open Go.RowKit Go.Gh Go.Proofs.Ytlfhcjhbnakamaa.Qs
set_option linter.unusedVariables false
set_option linter.unusedSimpArgs false
theorem infoU64 : (Try.prog.info? 22).map (fun i => (i.zero, i.size, i.bytes)) = some (some (.int .u64 0), 1, 8) := by kernel_rfl
theorem elU64 : Elem Try.prog 44 22 1 8 := elem_of Try.underlying44 infoU64 rfl (by decide)
theorem ints_one (k : IntKind) (l : List Int) : ∀ u ∈ l.map (Value.int k), u.oneCell' = true := by
  intro u hu; simp at hu; obtain ⟨z, _, rfl⟩ := hu; rfl
theorem clone_u64 (v : Value) (n : Nat) (l : List Int) (w : World) (hv : Sl w 1 v n (l.map (Value.int .u64))) (hn : n ≤ 1000000) :
    Calls Try.prog 57 #[v] w fun e w' => ∃ v', e = .returned v' ∧ w'.ownsRow w.heap.size 22 1 v' n (l.map (Value.int .u64)) ∧ Below w.heap.size w w' := by
  obtain ⟨ao, c, rfl, hnc, hc, hlen⟩ := hv.shape
  have HN := Lib.hid hn
  clear hn
  cases ao with
  | none =>
    have hn0 : n = 0 := by
      obtain ⟨ao', cap, h1, h2, _, h4, _, h6⟩ := hv
      simp at h1
      have := h4 h1.1.symm
      omega
    subst hn0
    have hl : l = [] := by simpa using hlen
    subst hl
    have he := Lib.run_eql_slice_nil (P := Try.prog) w 44 22 none 0 c 0 0 Try.underlying44
    go_enter Try.func57, Try.ntmps57
    go_wp2_with fail
    go_ret
    exact ⟨_, rfl, World.ownsRow_nil _ _ _ _, Below.refl _ _⟩
  | some a =>
    have he := Lib.run_eql_slice_nil (P := Try.prog) w 44 22 (some a) n c 0 0 Try.underlying44
    have ho := own_build (e := 22) (size := 1) (n := 0) w [] (Nat.le_refl _) rfl (by decide)
    have hs2 := hv.alloc (Obj.cells ([] : List Value).toArray 22)
    clear hlen
    go_enter Try.func57, Try.ntmps57
    go_wp2_with (at_builtin; refine appendS elU64 rfl _ _ rfl ho ((Below.refl _ _).alloc (Nat.le_refl _) _) ?c1 rfl rfl hs2 (ints_one _ _) ?c2 ?c3 ?_)
    case c1 => simp
    case c2 => have := HN.out; omega
    case c3 => have := HN.out; omega
    intro v' w1 hown' hbel' _
    go_wp2
    go_ret
    exact ⟨v', rfl, by simpa using hown', hbel'⟩
/-- A row of one's own, seen shorter. -/
theorem own_shorter {w : World} {B : Nat} {e : TypeId} {k g n cap m : Nat} {xs : List Value} (h : w.ownsRow B e k (.slice (some ⟨g, 0, none⟩) n cap) n xs) (hm : m ≤ n) : w.ownsRow B e k (.slice (some ⟨g, 0, none⟩) m cap) m (xs.take (m * k)) := by
  obtain ⟨hl, h2⟩ := h
  have hmk : m * k ≤ n * k := Nat.mul_le_mul_right _ hm
  rcases h2 with ⟨e1, _⟩ | ⟨g', cap', cur, e1, hb, hg, hnc, hcm, hsz, htk⟩
  · simp at e1
  · simp at e1
    obtain ⟨rfl, rfl⟩ := e1
    exact ⟨by rw [List.length_take]; omega, Or.inr ⟨g, cap, cur, rfl, hb, hg, by omega, hcm, hsz, by rw [← htk, List.take_take, Nat.min_eq_left hmk]⟩⟩
/-- clear of the last elements of a row of one's own. -/
theorem clear_own {P : Program} {w : World} {t e ty : TypeId} {k g n cap i m c B : Nat} {z : Value} {xs zs : List Value} (ht : P.underlying t = some (.slice e)) (hv : ∀ w, (zeroValue e).run P w = .ok z w) (hz : (Builtin.zeroCells z.cells (m + 1)).toList = zs)
    (h : w.ownsRow B e k (.slice (some ⟨g, 0, none⟩) n cap) n xs) (hzl : zs.length = (m + 1) * k) (hfit : i * k + (m + 1) * k ≤ n * k) (h1 : ∀ u ∈ zs, u.oneCell' = true) :
    (Builtin.clear_ #[t] ty #[.slice (some ⟨g, i * k, none⟩) (m + 1) c]).run P w = .ok (.tuple #[]) (setCells w g (i * k) zs) ∧ (setCells w g (i * k) zs).ownsRow B e k (.slice (some ⟨g, 0, none⟩) n cap) n (setFrom xs (i * k) zs) := by
  refine ⟨?_, own_stores zs w (i * k) xs h⟩
  have hl : xs.length = n * k := h.1
  have hst := run_storeCells_cells (P := P) g (i * k) zs 0 w (fun j hj => by
    have hx : i * k + j < xs.length := by omega
    have hc := h.cells (g := g) rfl (i * k + j) _ (List.getElem?_eq_getElem hx)
    rw [addr_add, Nat.zero_add] at hc
    rw [Nat.add_zero, hc]
    rfl) (fun j hj => h.frozenAt _) h1
  simp only [Nat.add_zero] at hst
  simp [Builtin.clear_, run_underlying ht, hv, hz, hst, setCells_eq]
theorem setFrom_take : ∀ (us xs : List Value) (k o : Nat), o ≤ k → (setFrom xs k us).take o = xs.take o
  | [], xs, k, o, h => rfl
  | u :: us, xs, k, o, h => by
    show (setFrom (xs.set k u) (k + 1) us).take o = _
    rw [setFrom_take us _ _ _ (by omega), List.take_set, List.set_eq_of_length_le (by rw [List.length_take]; omega)]
theorem zc_one (m : Nat) : ∀ u ∈ (Builtin.zeroCells (Value.int .u64 0).cells m).toList, u.oneCell' = true := by
  intro u hu
  unfold Builtin.zeroCells at hu
  simp [Value.cells] at hu
  obtain ⟨i, -, rfl⟩ := hu
  simp [Nat.mod_one]
  rfl
/-- What the row holds while it is compacted: k kept, the j-th is next. -/
structure CpU (l R : List Int) (k j : Nat) : Prop where
  len : R.length = l.length
  le : k < j
  kept : R.take k = Lib.compactUpTo l.toArray j
  rest : ∀ i, j ≤ i + 1 → R[i]? = l[i]?
theorem cu_skip {l : List Int} {j : Nat} {x y : Int} (hj : 0 < j) (hx : l[j - 1]? = some x) (hy : l[j]? = some y) (he : y = x) : Lib.compactUpTo l.toArray (j + 1) = Lib.compactUpTo l.toArray j := by
  have e1 : l.toArray[j]! = y := by rw [getElem!_def]; simp [hy]
  have e2 : l.toArray[j - 1]! = x := by rw [getElem!_def]; simp [hx]
  rw [Lib.compactUpTo_succ, Lib.keeps_neg hj (by rw [e1, e2, he])]
  simp
theorem cu_put {l : List Int} {j : Nat} {x y : Int} (hx : l[j - 1]? = some x) (hy : l[j]? = some y) (he : ¬ y = x) : Lib.compactUpTo l.toArray (j + 1) = Lib.compactUpTo l.toArray j ++ [y] := by
  have e1 : l.toArray[j]! = y := by rw [getElem!_def]; simp [hy]
  have e2 : l.toArray[j - 1]! = x := by rw [getElem!_def]; simp [hx]
  rw [Lib.compactUpTo_succ, Lib.keeps_pos (by rw [e1, e2]; exact he), e1]
  simp
theorem CpU.skip {l R : List Int} {k j : Nat} {x y : Int} (h : CpU l R k j) (hx : l[j - 1]? = some x) (hy : l[j]? = some y) (he : y = x) : CpU l R k (j + 1) :=
  ⟨h.len, by have := h.le; omega, by rw [cu_skip (by have := h.le; omega) hx hy he]; exact h.kept, fun i' hi => h.rest i' (by omega)⟩
theorem CpU.put {l R : List Int} {k j : Nat} {x y : Int} (h : CpU l R k j) (hx : l[j - 1]? = some x) (hy : l[j]? = some y) (he : ¬ y = x) : CpU l (R.set k y) (k + 1) (j + 1) := by
  have hl := h.le
  have hjl := (List.getElem?_eq_some_iff.1 hy).1
  have hk : k < R.length := by rw [h.len]; omega
  refine ⟨by rw [List.length_set]; exact h.len, by omega, ?_, fun i' hi => ?_⟩
  · rw [cu_put hx hy he, ← h.kept, List.take_succ_eq_append_getElem (by rw [List.length_set]; exact hk), List.getElem_set_self, List.take_set, List.set_eq_of_length_le (by rw [List.length_take]; omega)]
  · rw [List.getElem?_set_ne (by omega)]
    exact h.rest i' (by omega)
section
variable {w : World} {B g n cap i : Nat} {R : List Int} {x : Int}
theorem own_elU (h : w.ownsRow B 22 1 (.slice (some ⟨g, 0, none⟩) n cap) n (u64 R)) (hx : R[i]? = some x) : w.cell? ⟨g, i, none⟩ = some (.int .u64 x) ∧ w.frozen? ⟨g, i, none⟩ = false := by
  have hc := h.cells (g := g) rfl i (.int .u64 x) (by unfold u64; rw [List.getElem?_map, hx]; rfl)
  rw [addr_add, Nat.zero_add] at hc
  exact ⟨hc, h.frozenAt _⟩
theorem own_setU (h : w.ownsRow B 22 1 (.slice (some ⟨g, 0, none⟩) n cap) n (u64 R)) (hi : i < R.length) : (w.setCell ⟨g, i, none⟩ (.int .u64 x)).ownsRow B 22 1 (.slice (some ⟨g, 0, none⟩) n cap) n (u64 (R.set i x)) := by
  have h1 := (h.stored i (.int .u64 x)).1
  have e : (u64 R).set i (.int .u64 x) = u64 (R.set i x) := by unfold u64; rw [List.map_set]
  rw [e] at h1
  exact h1
end
def CmP (v : Value) (B : Nat) (l : List Int) (w : World) (e : Ending) (w' : World) : Prop := ∃ v', e = .returned v' ∧ w'.ownsRow B 22 1 v' (Lib.compact l).length (u64 (Lib.compact l)) ∧ w.grownBy w' v.ownBlock
set_option maxHeartbeats 8000000 in
set_option maxRecDepth 100000 in
theorem compactU_any (v : Value) (B : Nat) (l : List Int) (w : World) (h : w.ownsRow B 22 1 v l.length (u64 l)) (hl : l.length ≤ 1000000) (hB : B ≤ w.heap.size) :
    Calls Try.prog 87 #[v] w (CmP v B l w) := by
  obtain ⟨n, hn⟩ : ∃ n, l.length = n := ⟨_, rfl⟩
  by_cases h2 : n < 2
  · have HR : Hid (w.ownsRow B 22 1 v (Lib.compact l).length (u64 (Lib.compact l))) := Lib.hid (by
      have : Lib.compact l = l := by
        match l, hn with
        | [], _ => rfl
        | [x], _ => rfl
        | x :: y :: r, hn => simp at hn; omega
      rw [this]
      exact h)
    rw [hn] at h
    obtain ⟨uo, uc, rfl, hu1, hu2, -⟩ := own_shape h
    have t1 : decide ((n : Int) < 2) = true := decide_eq_true (by omega)
    go_enter Try.func87, Try.ntmps87
    go_wp2_with fail
    go_ret
    exact ⟨_, rfl, HR.out, World.grownBy.refl _ _⟩
  rw [hn] at h hl
  obtain ⟨g, cap, rfl, hgB, hgl, hcap, hcapm, -⟩ := own_some h (by omega)
  have HN := Lib.hid hn
  have HO := Lib.hid h
  have t1 : decide ((n : Int) < 2) = false := decide_eq_false (by omega)
  have HH : Hid (l.take 1 = Lib.compactUpTo l.toArray 1) := Lib.hid (by
    match l, hn with
    | x :: r, _ => rfl
    | [], hn => simp at hn; omega)
  clear h hn
  go_enter Try.func87, Try.ntmps87
  go_wp2_with fail
  go_loopw [3] (fun i wr => ∃ k : Nat, k + 1 ≤ n ∧ i = .int .i64 ((k : Int) + 1) ∧ Hid (l.take (k + 1) = Lib.compactUpTo l.toArray (k + 1)) ∧ Hid (wr.ownsRow B 22 1 (.slice (some ⟨g, 0, none⟩) n cap) n (u64 l)) ∧ Hid (w.grownBy wr (some g))) (fun i _ => n - (intOf i).toNat)
  case atStart => exact ⟨0, by omega, rfl, HH, HO, Lib.hid (World.grownBy.refl _ _)⟩
  case round =>
    obtain ⟨k, hj, rfl, HK, HOW, hbel⟩ := hrel
    have hsz : B ≤ wr.heap.size := Nat.le_trans hB hbel.out.size
    by_cases hlt : k + 1 < n
    case neg =>
      have hjn : k + 1 = n := by omega
      have HR : Hid (wr.ownsRow B 22 1 (.slice (some ⟨g, 0, none⟩) n cap) (Lib.compact l).length (u64 (Lib.compact l))) := Lib.hid (by
        have e : Lib.compact l = l := by
          have := HK.out
          rw [hjn, List.take_of_length_le (by rw [HN.out]; exact Nat.le_refl _)] at this
          unfold Lib.compact
          rw [HN.out, ← this]
        rw [e, HN.out]
        exact HOW.out)
      go_wp2_with fail
      go_ret
      exact ⟨_, rfl, HR.out, hbel.out⟩
    obtain ⟨x, hx⟩ : ∃ x, l[k]? = some x := ⟨_, List.getElem?_eq_getElem (by rw [HN.out]; omega)⟩
    obtain ⟨y, hy⟩ : ∃ y, l[k + 1]? = some y := ⟨_, List.getElem?_eq_getElem (by rw [HN.out]; omega)⟩
    obtain ⟨x0, -⟩ := own_elU HOW.out hx
    obtain ⟨y0, -⟩ := own_elU HOW.out hy
    have HX := Lib.hid hx
    have HY := Lib.hid hy
    have HBL := hbel
    have hkn : k < n := by omega
    have hk0 : (0 : Int) ≤ (k : Int) := by omega
    have hk1 : (k : Int) < (n : Int) := by omega
    have hk2 : (k : Int) ≤ (n : Int) := by omega
    have hj0 : (0 : Int) ≤ (k : Int) + 1 := by omega
    have hj1 : (k : Int) + 1 < (n : Int) := by omega
    have hjt : ((k : Int) + 1).toNat = k + 1 := by omega
    have hwr : IntKind.i64.wrap (k : Int) = (k : Int) := by rw [IntKind.wrap_i64]; omega
    have hwr2 : IntKind.i64.wrap ((k : Int) + 1 - 1) = (k : Int) := by rw [IntKind.wrap_i64]; omega
    clear hx hy hbel
    obtain ⟨E, hE⟩ : ∃ E, (y == x) = E := ⟨_, rfl⟩
    have HE := Lib.hid hE
    go_wp2_with fail
    go_quiet (fail)
    have HO2 : Hid ((wr.drewN nq).ownsRow B 22 1 (.slice (some ⟨g, 0, none⟩) n cap) n (u64 l)) := Lib.hid (own_below HOW.out (below_drewN (Below.refl _ _) _))
    have HB2 : Hid (w.grownBy (wr.drewN nq) (some g)) := Lib.hid (grown_drewN HBL.out _)
    obtain ⟨w2, hw2⟩ : ∃ w2, w2 = wr.drewN nq := ⟨_, rfl⟩
    rw [← hw2] at HO2 HB2 ⊢
    have hs2 : B ≤ w2.heap.size := by rw [hw2]; exact hsz
    clear hw2 x0 y0
    cases E with
    | false =>
      have HK2 : Hid (l.take (k + 2) = Lib.compactUpTo l.toArray (k + 2)) := Lib.hid (by
        rw [cu_put (j := k + 1) HX.out HY.out (by have := HE.out; simpa using this), ← HK.out]
        obtain ⟨h3, h4⟩ := List.getElem?_eq_some_iff.1 HY.out
        rw [List.take_succ_eq_append_getElem h3, h4])
      clear hE
      go_wp2_with fail
      go_roundw
      case rel => exact ⟨k + 1, by omega, by go_num, HK2, HO2, HB2⟩
      case measure => simp [intOf]; omega
    | true =>
      have hyx : y = x := by have := HE.out; simpa using this
      have HC0 : Hid (CpU l l (k + 1) (k + 2)) := Lib.hid ⟨rfl, by omega, by rw [cu_skip (j := k + 1) (by omega) HX.out HY.out hyx, HK.out], fun i _ => rfl⟩
      clear hyx hE
      obtain ⟨m, hm⟩ : ∃ m, n - (k + 1) = m := ⟨_, rfl⟩
      have hcp : (cap = k + 1) = False := eq_false (by omega)
      have hkc : k + 1 ≤ cap := by omega
      go_wp2_with fail
      go_loopw [3, 5] (fun a b wr => ∃ (kk q : Nat) (R : List Int), k + 2 + q ≤ n ∧ kk < k + 2 + q ∧ a = .int .i64 kk ∧ b = .int .i64 ((q : Int) + 1) ∧ Hid (CpU l R kk (k + 2 + q)) ∧ Hid (wr.ownsRow B 22 1 (.slice (some ⟨g, 0, none⟩) n cap) n (u64 R)) ∧ Hid (w.grownBy wr (some g))) (fun _ b _ => n - (intOf b).toNat)
      case atStart => exact ⟨k + 1, 0, l, by omega, by omega, by go_num, rfl, HC0, HO2, HB2⟩
      case round =>
        obtain ⟨kk, q, R, hq, hkq, rfl, rfl, HC, HOR, hbel⟩ := hrel
        have hsz2 : B ≤ wr.heap.size := Nat.le_trans hB hbel.out.size
        have HBL2 := hbel
        clear hbel
        by_cases hlq : k + 2 + q < n
        case neg =>
          have hqn : k + 2 + q = n := by omega
          obtain ⟨r, hr⟩ : ∃ r, n - kk = r + 1 := ⟨n - kk - 1, by omega⟩
          obtain ⟨zs, hzs⟩ : ∃ zs, (Builtin.zeroCells (Value.int .u64 0).cells (r + 1)).toList = zs := ⟨_, rfl⟩
          have hz1 : ∀ u ∈ zs, u.oneCell' = true := by rw [← hzs]; exact zc_one _
          have hzl : zs.length = (r + 1) * 1 := by rw [← hzs, Array.length_toList, size_zeroCells]; rfl
          have hcl := fun ty c => clear_own (P := Try.prog) (ty := ty) (c := c) (m := r) (i := kk) (zs := zs) Try.underlying44 Try.zeroValue22 hzs HOR.out hzl (by omega) hz1
          have hfin := own_shorter (hcl 0 0).2 (m := kk) (by omega)
          have hlen : (Lib.compact l).length = kk := by
            have h1 := congrArg List.length HC.out.kept
            rw [hqn, List.length_take, HC.out.len, HN.out] at h1
            unfold Lib.compact
            rw [HN.out, ← h1]
            omega
          have hk9 : u64 R = u64 R := rfl
          rw [setFrom_take _ _ _ _ (Nat.le_refl _)] at hfin
          have e9 : (u64 R).take (kk * 1) = u64 (Lib.compact l) := by
            unfold u64 Lib.compact
            rw [Nat.mul_one, ← List.map_take, HC.out.kept, hqn, HN.out]
          rw [e9] at hfin
          have hcl2 := fun ty c => (hcl ty c).1
          have hbn := grown_cells (w := w) (b := g) (r := some g) (Or.inr rfl) zs wr (kk * 1) HBL2.out
          obtain ⟨W2, hW2⟩ : ∃ W2, W2 = setCells wr g (kk * 1) zs := ⟨_, rfl⟩
          rw [← hW2] at hcl2 hfin hbn
          rw [Nat.mul_one] at hcl2
          have HR : Hid (W2.ownsRow B 22 1 (.slice (some ⟨g, 0, none⟩) kk cap) (Lib.compact l).length (u64 (Lib.compact l))) := Lib.hid (by rw [hlen]; exact hfin)
          have HBN := Lib.hid hbn
          have hcp2 : (cap = kk) = False := eq_false (by omega)
          have hkc2 : kk ≤ cap := by omega
          have hkn2 : (kk : Int) ≤ (n : Int) := by omega
          have hk02 : (0 : Int) ≤ (kk : Int) := by omega
          clear hcl hfin hbn hW2 hlen hzs hz1 hzl e9 hk9
          go_wp2_with fail
          go_ret
          exact ⟨_, rfl, HR.out, HBN.out⟩
        obtain ⟨x2, hx2⟩ : ∃ x, l[k + 1 + q]? = some x := ⟨_, List.getElem?_eq_getElem (by rw [HN.out]; omega)⟩
        obtain ⟨y2, hy2⟩ : ∃ y, l[k + 2 + q]? = some y := ⟨_, List.getElem?_eq_getElem (by rw [HN.out]; omega)⟩
        obtain ⟨x0, -⟩ := own_elU (i := k + 1 + q) HOR.out ((HC.out.rest _ (by omega)).trans hx2)
        obtain ⟨y0, -⟩ := own_elU (i := k + 2 + q) HOR.out ((HC.out.rest _ (by omega)).trans hy2)
        rw [show k + 2 + q = k + 1 + (q + 1) by omega] at y0
        have HX2 := Lib.hid hx2
        have HY2 := Lib.hid hy2
        have hqm : q < m := by omega
        have hqm1 : q + 1 < m := by omega
        have hq0 : (0 : Int) ≤ (q : Int) := by omega
        have hq1 : (q : Int) < (m : Int) := by omega
        have hq2 : (q : Int) + 1 < (m : Int) := by omega
        have hq3 : (0 : Int) ≤ (q : Int) + 1 := by omega
        have hqt : ((q : Int) + 1).toNat = q + 1 := by omega
        have hqw : IntKind.i64.wrap (q : Int) = (q : Int) := by rw [IntKind.wrap_i64]; omega
        have hqw2 : IntKind.i64.wrap ((q : Int) + 1 - 1) = (q : Int) := by rw [IntKind.wrap_i64]; omega
        obtain ⟨E, hE⟩ : ∃ E, (y2 == x2) = E := ⟨_, rfl⟩
        have hE' : (y2 != x2) = !E := by rw [← hE]; rfl
        have HE2 := Lib.hid hE
        clear hx2 hy2
        go_wp2_with fail
        go_quiet (fail)
        have HO3 : Hid ((wr.drewN nq).ownsRow B 22 1 (.slice (some ⟨g, 0, none⟩) n cap) n (u64 R)) := Lib.hid (own_below HOR.out (below_drewN (Below.refl _ _) _))
        have HB3 : Hid (w.grownBy (wr.drewN nq) (some g)) := Lib.hid (grown_drewN HBL2.out _)
        obtain ⟨w3, hw3⟩ : ∃ w2, w2 = wr.drewN nq := ⟨_, rfl⟩
        rw [← hw3] at HO3 HB3 ⊢
        clear hw3 x0
        cases E with
        | true =>
          have HC2 : Hid (CpU l R kk (k + 2 + q + 1)) := Lib.hid (HC.out.skip (x := x2) (by rw [show k + 2 + q - 1 = k + 1 + q by omega]; exact HX2.out) HY2.out (by have := HE2.out; simpa using this))
          clear hE hE' y0
          go_wp2_with fail
          go_roundw
          case rel => exact ⟨kk, q + 1, R, by omega, by omega, rfl, by go_num, HC2, HO3, HB3⟩
          case measure => simp [intOf]; omega
        | false =>
          have HC2 : Hid (CpU l (R.set kk y2) (kk + 1) (k + 2 + q + 1)) := Lib.hid (HC.out.put (x := x2) (by rw [show k + 2 + q - 1 = k + 1 + q by omega]; exact HX2.out) HY2.out (by have := HE2.out; simpa using this))
          have hkR : kk < R.length := by rw [HC.out.len, HN.out]; omega
          obtain ⟨u, hu⟩ : ∃ u, R[kk]? = some u := ⟨_, List.getElem?_eq_getElem hkR⟩
          obtain ⟨u0, f0⟩ := own_elU HO3.out hu
          obtain ⟨y1, -⟩ := own_elU (i := k + 1 + (q + 1)) HO3.out ((HC.out.rest _ (by omega)).trans (by rw [show k + 1 + (q + 1) = k + 2 + q by omega]; exact HY2.out))
          have hon := own_setU (x := y2) HO3.out hkR
          have HON := Lib.hid hon
          have HBN : Hid (w.grownBy (w3.setCell ⟨g, kk, none⟩ (.int .u64 y2)) (some g)) := Lib.hid (grown_setCell HB3.out kk _)
          have hkn2 : (kk : Int) < (n : Int) := by omega
          have hkn3 : kk < n := by omega
          clear hon hu hkR hE hE' y0
          go_wp2_with fail
          go_roundw
          case rel => exact ⟨kk + 1, q + 1, _, by omega, by omega, by go_num, by go_num, HC2, HON, HBN⟩
          case measure => simp [intOf]; omega
end Go.Proofs.Ytlfhcjhbnakamaa.Lst
/-
  The index: the walks of the closure in Find, slices.IndexFunc, slices.DeleteFunc.
-/
namespace Go.Proofs.Ytlfhcjhbnakamaa.Iy
open Go.RowKit Go.Gh Go.Maps Go.WideShapes Go.Proofs.Ytlfhcjhbnakamaa.Rk Go.Proofs.Ytlfhcjhbnakamaa.Lab
set_option linter.unusedVariables false
set_option linter.unusedSimpArgs false
/-- Where the closure may be called. -/
structure FnC (w : World) (xb bx bY : Nat) (m : Mt) (W : World) : Prop where
  bel : Below w.heap.size w W
  hx : W.heap[bx]? = some (.cells #[.pointer (some ⟨xb, 0, none⟩)] 60 (0, 0))
  hY : W.heap[bY]? = some (.cells #[.int .i64 m.kd, .string (mkS m.nm), .string (mkS m.vl)] 102 (0, 0))
theorem FnC.below {w W W' : World} {xb bx bY : Nat} {m : Mt} (h : FnC w xb bx bY m W) (hb : Below W.heap.size W W') : FnC w xb bx bY m W' :=
  ⟨h.bel.trans (hb.mono h.bel.size), (hb.block _ (Array.getElem?_eq_some_iff.1 h.hx).1).trans h.hx, (hb.block _ (Array.getElem?_eq_some_iff.1 h.hY).1).trans h.hY⟩
theorem FnC.grown {w W W' : World} {xb bx bY g B n cap : Nat} {m : Mt} {xs : List Value} (h : FnC w xb bx bY m W) (hg : W.grownBy W' (some g)) (hrow : W.ownsRow B 3 1 (.slice (some ⟨g, 0, none⟩) n cap) n xs) (hB : w.heap.size ≤ B) : FnC w xb bx bY m W' :=
  ⟨h.bel.grown hg h.bel.size (fun k hk => by injection hk with hk; subst hk; exact Nat.le_trans hB (hrow.lt _ rfl).1),
    (hg.block _ (Array.getElem?_eq_some_iff.1 h.hx).1 (fun e => own_block_ne hrow h.hx (by decide) e.symm)).trans h.hx,
    (hg.block _ (Array.getElem?_eq_some_iff.1 h.hY).1 (fun e => own_block_ne hrow h.hY (by decide) e.symm)).trans h.hY⟩
theorem lvO_mono (B : Nat) : Mono (LvO B) := fun w w' a c h hb => h.turn (grown_of_below hb) (off_none _ _)
set_option maxHeartbeats 4000000 in
set_option maxRecDepth 100000 in
theorem clos_any {w W : World} {B mb xb bx bY n c i : Nat} {L : List (List Lb)} {ao : Option Addr} {m : Mt} {l : List Lb} (hA : AllAt B mb xb L ao n c w) (hM : MTab w) (hl : L[i]? = some l) (h0 : labelF l = 0) (h : FnC w xb bx bY m W) :
    Calls Try.prog 68 #[.int .i64 (i : Int), .pointer (some ⟨bx, 0, none⟩), .pointer (some ⟨bY, 0, none⟩)] W fun e W' => e = .returned (.bool (!fitB l m)) ∧ Below W.heap.size W W' := by
  have hAW := hA.turn (grown_of_below h.bel) (by simp) (off_none _ _) (off_none _ _)
  obtain ⟨b, off, cs, rfl, hlo, -, hcell⟩ := hAW.all.sp.get hl
  obtain ⟨t, rfl, ht⟩ := lvO_I hlo
  have a0 := hcell 0 t rfl
  rw [Nat.mul_one, Nat.add_zero] at a0
  obtain ⟨to', tc, rfl, -, -⟩ := ht.shape
  obtain ⟨k, hk⟩ : ∃ k, l.length = k := ⟨_, rfl⟩
  rw [hk] at ht a0
  obtain ⟨⟨d0, -⟩, -⟩ := hAW.cells
  have x0 := (row_cell 0 _ h.hx rfl).1
  have y0 := (row_cell 0 _ h.hY rfl).1
  have y1 := (row_cell 1 _ h.hY rfl).1
  have y2 := (row_cell 2 _ h.hY rfl).1
  obtain ⟨S1, hS1⟩ : ∃ S, S = mkS m.nm := ⟨_, rfl⟩
  obtain ⟨S2, hS2⟩ : ∃ S, S = mkS m.vl := ⟨_, rfl⟩
  have hfit := fun W' (hb : Below W.heap.size W W') => fit_any _ l m W' (ht.below lbR_mono hb) (hM.below (h.bel.trans (hb.mono h.bel.size))) (by have := valF_len h0 m.nm; omega)
  rw [← hS1, ← hS2] at hfit
  rw [← hS1] at y1
  rw [← hS2] at y2
  obtain ⟨F, hF⟩ : ∃ F, fitB l m = F := ⟨_, rfl⟩
  rw [hF] at hfit ⊢
  have HFIT := Lib.hid hfit
  have hi : i < n := by rw [← hA.len]; exact (List.getElem?_eq_some_iff.1 hl).1
  have hi0 : (0 : Int) ≤ (i : Int) := by omega
  have hi1 : (i : Int) < (n : Int) := by omega
  have HS : Hid (∀ W', Below W.heap.size W W' → W'.cell? ⟨bx, 0, none⟩ = some (.pointer (some ⟨xb, 0, none⟩)) ∧ W'.cell? ⟨xb, 0, none⟩ = some (.slice (some ⟨b, off, none⟩) n c) ∧ W'.cell? ⟨b, off + i, none⟩ = some (.slice to' k tc) ∧ W'.cell? ⟨bY, 0, none⟩ = some (.int .i64 m.kd) ∧ W'.cell? ⟨bY, 1, none⟩ = some (.string S1) ∧ W'.cell? ⟨bY, 2, none⟩ = some (.string S2)) := Lib.hid (fun W' hb =>
    ⟨(hb.cell (p := ⟨bx, 0, none⟩) (cell_lt x0)).trans x0, (hb.cell (p := ⟨xb, 0, none⟩) (cell_lt d0)).trans d0, (hb.cell (p := ⟨b, off + i, none⟩) (cell_lt a0)).trans a0, (hb.cell (p := ⟨bY, 0, none⟩) (cell_lt y0)).trans y0, (hb.cell (p := ⟨bY, 1, none⟩) (cell_lt y1)).trans y1, (hb.cell (p := ⟨bY, 2, none⟩) (cell_lt y2)).trans y2⟩)
  have HD : Hid (Below W.heap.size W W.drew) := Lib.hid (Below.refl _ _).drew
  have q0 := HS.out _ HD.out
  clear hcell hlo ht hk hfit hF hS1 hS2 x0 d0 a0 y0 y1 y2 hAW hi
  go_enter Try.func68, Try.ntmps68
  go_upto_region 1 with (fail)
  go_region_held3 (fun W' => W'.cell? ⟨bx, 0, none⟩ = some (.pointer (some ⟨xb, 0, none⟩)) ∧ W'.cell? ⟨xb, 0, none⟩ = some (.slice (some ⟨b, off, none⟩) n c) ∧ W'.cell? ⟨b, off + i, none⟩ = some (.slice to' k tc) ∧ W'.cell? ⟨bY, 0, none⟩ = some (.int .i64 m.kd) ∧ W'.cell? ⟨bY, 1, none⟩ = some (.string S1) ∧ W'.cell? ⟨bY, 2, none⟩ = some (.string S2)) (first | (with_reducible exact q1) | (with_reducible exact q0) | go_keep)
    (first | (go_at_call 69; refine (HFIT.out _ HD.out).mono ?_; rintro e w2 ⟨rfl, hb2⟩; have HB2 : Hid (Below W.heap.size W w2) := Lib.hid (HD.out.trans (hb2.mono HD.out.size)); have q1 := HS.out _ HB2.out; clear hb2))
  all_goals
    clear q0 q1
    go_wp2_with fail
    go_ret
    exact ⟨rfl, HB2.out⟩
/-- The first place where p holds. -/
def IdR (p : Int → Bool) (l : List Int) (k : Int) : Prop := (k = -1 ∧ ∀ z ∈ l, p z = false) ∨ ∃ (j : Nat) (x : Int), k = (j : Int) ∧ l[j]? = some x ∧ p x = true ∧ ∀ y ∈ l.take j, p y = false
def IdP (p : Int → Bool) (l : List Int) (W : World) (e : Ending) (W' : World) : Prop := ∃ k : Int, e = .returned (.int .i64 k) ∧ IdR p l k ∧ Below W.heap.size W W'
/-- The closure as a value. -/
def fnV (bx bY : Nat) : Value := .func (.func 68) #[] #[.pointer (some ⟨bx, 0, none⟩), .pointer (some ⟨bY, 0, none⟩)]
set_option maxHeartbeats 4000000 in
set_option maxRecDepth 100000 in
theorem idxf_any {w W0 : World} {xb bx bY : Nat} {m : Mt} {p : Int → Bool} {v : Value} {l : List Int} (hP : ∀ W z, FnC w xb bx bY m W → z ∈ l → Calls Try.prog 68 #[.int .i64 z, .pointer (some ⟨bx, 0, none⟩), .pointer (some ⟨bY, 0, none⟩)] W fun e W' => e = .returned (.bool (p z)) ∧ Below W.heap.size W W')
    (hs : Ns W0 v l) (hC : FnC w xb bx bY m W0) (h9 : l.length ≤ 1000000) : Calls Try.prog 101 #[v, fnV bx bY] W0 (IdP p l W0) := by
  obtain ⟨ao, c, rfl, hnc, hc, _⟩ := hs.shape
  obtain ⟨n, hn⟩ : ∃ n, l.length = n := ⟨_, rfl⟩
  have HS := Lib.hid hs
  rw [hn] at HS hnc h9 ⊢
  have HN := Lib.hid hn
  have HC := Lib.hid hC
  have HP := Lib.hid hP
  clear hs hn hC hP
  unfold fnV
  go_enter Try.func101, Try.ntmps101
  go_wp2_with fail
  go_loopw [8] (fun i wr => ∃ k : Nat, k ≤ n ∧ i = .int .i64 k ∧ Hid (∀ y ∈ l.take k, p y = false) ∧ Hid (Below W0.heap.size W0 wr)) (fun i _ => n - (intOf i).toNat)
  case atStart => exact ⟨0, Nat.zero_le _, rfl, Lib.hid (fun y hy => by simp at hy), Lib.hid (Below.refl _ _)⟩
  case round =>
    obtain ⟨k, hk, rfl, HT, HB⟩ := hrel
    by_cases hlt : k < n
    case neg =>
      obtain rfl : k = n := by omega
      have HE : Hid (IdP p l W0 (.returned (.int .i64 (-1))) wr) := Lib.hid ⟨-1, rfl, Or.inl ⟨rfl, fun z hz => HT.out z (by rw [List.take_of_length_le (by rw [HN.out]; exact Nat.le_refl _)]; exact hz)⟩, HB.out⟩
      go_wp2_with fail
      go_ret
      exact HE.out
    obtain ⟨x, hx⟩ : ∃ x, l[k]? = some x := ⟨_, List.getElem?_eq_getElem (by rw [HN.out]; exact hlt)⟩
    obtain ⟨b, off, rfl, x0⟩ := (HS.out.below HB.out).at hx
    have HX := Lib.hid hx
    have HPK := Lib.hid (HP.out wr x (HC.out.below HB.out) (List.mem_of_getElem? hx))
    have hk0 : (0 : Int) ≤ (k : Int) := by omega
    have hk1 : (k : Int) < (n : Int) := by omega
    obtain ⟨D, hD⟩ : ∃ D, p x = D := ⟨_, rfl⟩
    rw [hD] at HPK
    have HD := Lib.hid hD
    clear hx hD
    go_wp2_with fail
    refine HPK.out.mono ?_
    rintro e w2 ⟨rfl, hb2⟩
    have HB2 := Lib.hid (HB.out.trans (hb2.mono HB.out.size))
    clear x0 hb2
    cases D with
    | true =>
      have HE : Hid (IdP p l W0 (.returned (.int .i64 (k : Int))) w2) := Lib.hid ⟨k, rfl, Or.inr ⟨k, x, rfl, HX.out, HD.out, HT.out⟩, HB2.out⟩
      go_wp2_with fail
      go_ret
      exact HE.out
    | false =>
      have HT2 : Hid (∀ y ∈ l.take (k + 1), p y = false) := Lib.hid (fun y hy => by
        rw [List.take_add_one, HX.out] at hy
        rcases List.mem_append.1 hy with hy | hy
        · exact HT.out y hy
        · obtain rfl : y = x := by simpa using hy
          exact HD.out)
      go_wp2_with fail
      go_roundw
      case rel => exact ⟨k + 1, by omega, by go_num, HT2, HB2⟩
      case measure => simp [intOf]; omega
/-- What stands while some are struck. -/
structure DeR (p : Int → Bool) (l R : List Int) (kk q : Nat) : Prop where
  kept : R.take kk = (l.take q).filter (fun z => !p z)
  rest : ∀ i, q ≤ i → R[i]? = l[i]?
  len : R.length = l.length
  le : kk ≤ q
theorem DeR.struck {p : Int → Bool} {l R : List Int} {kk q : Nat} {x : Int} (h : DeR p l R kk q) (hx : l[q]? = some x) (hp : p x = true) : DeR p l R kk (q + 1) :=
  ⟨by rw [h.kept, List.take_add_one, hx, List.filter_append]; simp [hp], fun i hi => h.rest i (by omega), h.len, by have := h.le; omega⟩
theorem DeR.stays {p : Int → Bool} {l R : List Int} {kk q : Nat} {x : Int} (h : DeR p l R kk q) (hx : l[q]? = some x) (hp : p x = false) : DeR p l (R.set kk x) (kk + 1) (q + 1) := by
  have hq := (List.getElem?_eq_some_iff.1 hx).1
  have hkl : kk < R.length := by have := h.le; have := h.len; omega
  refine ⟨?_, fun i hi => ?_, by rw [List.length_set]; exact h.len, by have := h.le; omega⟩
  · rw [List.take_add_one, List.getElem?_set_self hkl, List.take_set, List.set_eq_of_length_le (by rw [List.length_take]; omega), h.kept, List.take_add_one, hx, List.filter_append]
    simp [hp]
  · rw [List.getElem?_set_ne (by have := h.le; omega)]
    exact h.rest i (by omega)
theorem DeR.start {p : Int → Bool} {l : List Int} {j : Nat} {x : Int} (hx : l[j]? = some x) (hp : p x = true) (hb : ∀ y ∈ l.take j, p y = false) : DeR p l l j (j + 1) := by
  refine ⟨?_, fun i _ => rfl, rfl, by omega⟩
  rw [List.take_add_one, hx, List.filter_append, List.filter_eq_self.2 (fun y hy => by rw [hb y hy]; rfl)]
  simp [hp]
/-- What DeleteFunc answers. -/
def DelP (w : World) (xb bx bY : Nat) (m : Mt) (B : Nat) (r : List Int) (e : Ending) (W' : World) : Prop := ∃ v', e = .returned v' ∧ Ix.OwI B W' v' r ∧ FnC w xb bx bY m W'
theorem zcI_one (m : Nat) : ∀ u ∈ (Builtin.zeroCells (Value.int .i64 0).cells m).toList, u.oneCell' = true := by
  intro u hu
  unfold Builtin.zeroCells at hu
  simp [Value.cells] at hu
  obtain ⟨i, -, rfl⟩ := hu
  simp [Nat.mod_one]
  rfl
theorem own_elI {w : World} {B n g c i : Nat} {l : List Int} {x : Int} (h : w.ownsRow B 3 1 (.slice (some ⟨g, 0, none⟩) n c) n (l.map (Value.int .i64))) (hx : l[i]? = some x) : w.cell? ⟨g, i, none⟩ = some (.int .i64 x) ∧ w.frozen? ⟨g, i, none⟩ = false := by
  have hi : i < l.length := (List.getElem?_eq_some_iff.1 hx).1
  have hl : l.length = n := by have := h.1; simpa using this
  have h1 := h.cells (g := g) rfl i (.int .i64 x) (by rw [List.getElem?_map, hx]; rfl)
  rw [addr_add, Nat.zero_add] at h1
  exact ⟨h1, h.frozenAt _⟩
set_option maxHeartbeats 8000000 in
set_option maxRecDepth 100000 in
theorem del_any {w W0 : World} {xb bx bY B : Nat} {m : Mt} {p : Int → Bool} {v : Value} {l : List Int} (hP : ∀ W z, FnC w xb bx bY m W → z ∈ l → Calls Try.prog 68 #[.int .i64 z, .pointer (some ⟨bx, 0, none⟩), .pointer (some ⟨bY, 0, none⟩)] W fun e W' => e = .returned (.bool (p z)) ∧ Below W.heap.size W W')
    (hs : Ix.OwI B W0 v l) (hC : FnC w xb bx bY m W0) (hwB : w.heap.size ≤ B) (h9 : l.length ≤ 1000000) : Calls Try.prog 67 #[v, fnV bx bY] W0 (DelP w xb bx bY m B (l.filter (fun z => !p z))) := by
  have hidx := idxf_any hP (own_sl hs) hC h9
  obtain ⟨n, hn⟩ : ∃ n, l.length = n := ⟨_, rfl⟩
  unfold Ix.OwI at hs
  rw [hn] at hs h9
  obtain ⟨ao, c, rfl, hnc, hc2, -⟩ := own_shape hs
  have HS := Lib.hid hs
  have HN := Lib.hid hn
  have HC := Lib.hid hC
  have HP := Lib.hid hP
  have HIDX := Lib.hid hidx
  clear hs hn hC hP hidx
  unfold fnV
  go_enter Try.func67, Try.ntmps67
  go_wp2_with fail
  refine HIDX.out.mono ?_
  rintro e w1 ⟨k, rfl, hk, hb1⟩
  have HB1 := Lib.hid hb1
  have HC1 := Lib.hid (HC.out.below hb1)
  have HS1 := Lib.hid (own_below HS.out hb1)
  clear hb1
  rcases hk with ⟨rfl, hall⟩ | ⟨j, x, rfl, hx, hp, hb⟩
  · have HE : Hid (DelP w xb bx bY m B (l.filter (fun z => !p z)) (.returned (.slice ao n c)) w1) := Lib.hid ⟨_, rfl, by
      rw [List.filter_eq_self.2 (fun y hy => by rw [hall y hy]; rfl)]
      unfold Ix.OwI
      rw [HN.out]
      exact HS1.out, HC1.out⟩
    clear hall
    go_wp2_with fail
    go_ret
    exact HE.out
  have hj : j < n := by rw [← HN.out]; exact (List.getElem?_eq_some_iff.1 hx).1
  obtain ⟨g, rfl⟩ : ∃ g, ao = some ⟨g, 0, none⟩ := by
    rcases HS1.out.2 with ⟨e1, e2⟩ | ⟨g, cap, cur, e1, -⟩
    · omega
    · injection e1 with e2
      exact ⟨g, e2⟩
  have HD0 : Hid (DeR p l l j (j + 1)) := Lib.hid (DeR.start hx hp hb)
  have t1 : ((j : Int) == -1) = false := by rw [beq_eq_false_iff_ne]; omega
  clear hx hp hb
  go_wp2_with fail
  go_loopw [5, 6] (fun a b wr => ∃ (kk q : Nat) (R : List Int), q ≤ n ∧ kk < q ∧ a = .int .i64 kk ∧ b = .int .i64 (q : Int) ∧ Hid (DeR p l R kk q) ∧ Hid (wr.ownsRow B 3 1 (.slice (some ⟨g, 0, none⟩) n c) n (R.map (Value.int .i64))) ∧ Hid (FnC w xb bx bY m wr)) (fun _ b _ => n - (intOf b).toNat)
  case atStart => exact ⟨j, j + 1, l, by omega, by omega, rfl, by go_num, HD0, HS1, HC1⟩
  case round =>
    obtain ⟨kk, q, R, hq, hkq, rfl, rfl, HD, HOR, HCR⟩ := hrel
    by_cases hlt : q < n
    case neg =>
      obtain rfl : q = n := by omega
      obtain ⟨r, hr⟩ : ∃ r, q - kk = r + 1 := ⟨q - kk - 1, by omega⟩
      obtain ⟨zs, hzs⟩ : ∃ zs, (Builtin.zeroCells (Value.int .i64 0).cells (r + 1)).toList = zs := ⟨_, rfl⟩
      have hz1 : ∀ u ∈ zs, u.oneCell' = true := by rw [← hzs]; exact zcI_one _
      have hzl : zs.length = (r + 1) * 1 := by rw [← hzs, Array.length_toList, size_zeroCells]; rfl
      have hcl := fun ty c => Lst.clear_own (P := Try.prog) (ty := ty) (c := c) (m := r) (i := kk) (zs := zs) Try.underlying35 Try.zeroValue3 hzs HOR.out hzl (by omega) hz1
      have hfin := Lst.own_shorter (hcl 0 0).2 (m := kk) (by omega)
      rw [Lst.setFrom_take _ _ _ _ (Nat.le_refl _)] at hfin
      have e9 : (R.map (Value.int .i64)).take (kk * 1) = (l.filter (fun z => !p z)).map (Value.int .i64) := by
        rw [Nat.mul_one, ← List.map_take, HD.out.kept, List.take_of_length_le (by rw [HN.out]; exact Nat.le_refl _)]
      have hlen : (l.filter (fun z => !p z)).length = kk := by
        have h1 := congrArg List.length HD.out.kept
        rw [List.take_of_length_le (l := l) (by rw [HN.out]; exact Nat.le_refl _), List.length_take, HD.out.len, HN.out] at h1
        omega
      rw [e9] at hfin
      have hcl2 := fun ty c => (hcl ty c).1
      have hgc := grown_cells (w := wr) (b := g) (r := some g) (Or.inr rfl) zs wr (kk * 1) ⟨rfl, rfl, rfl, Nat.le_refl _, fun _ _ _ => rfl⟩
      have hcf := HCR.out.grown hgc HOR.out hwB
      obtain ⟨W2, hW2⟩ : ∃ W2, W2 = setCells wr g (kk * 1) zs := ⟨_, rfl⟩
      rw [← hW2] at hcl2 hfin hcf
      rw [Nat.mul_one] at hcl2
      have HE : Hid (DelP w xb bx bY m B (l.filter (fun z => !p z)) (.returned (.slice (some ⟨g, 0, none⟩) kk c)) W2) := Lib.hid ⟨_, rfl, by unfold Ix.OwI; rw [hlen]; exact hfin, hcf⟩
      have hcp2 : (c = kk) = False := eq_false (by omega)
      have hkc2 : kk ≤ c := by omega
      have hkn2 : (kk : Int) ≤ (q : Int) := by omega
      have hk02 : (0 : Int) ≤ (kk : Int) := by omega
      clear hcl hfin hW2 hlen hzs hz1 hzl e9 hgc hcf
      go_wp2_with fail
      go_ret
      exact HE.out
    obtain ⟨x, hx⟩ : ∃ x, l[q]? = some x := ⟨_, List.getElem?_eq_getElem (by rw [HN.out]; exact hlt)⟩
    obtain ⟨x0, -⟩ := own_elI (i := q) HOR.out ((HD.out.rest q (Nat.le_refl _)).trans hx)
    have HX := Lib.hid hx
    have HPK := Lib.hid (HP.out wr x HCR.out (List.mem_of_getElem? hx))
    have hq0 : (0 : Int) ≤ (q : Int) := by omega
    have hq1 : (q : Int) < (n : Int) := by omega
    have hk0 : (0 : Int) ≤ (kk : Int) := by omega
    have hk1 : (kk : Int) < (n : Int) := by omega
    obtain ⟨D, hD⟩ : ∃ D, p x = D := ⟨_, rfl⟩
    rw [hD] at HPK
    have HDD := Lib.hid hD
    clear hx hD
    go_wp2_with fail
    refine HPK.out.mono ?_
    rintro e w2 ⟨rfl, hb2⟩
    have HOR2 := Lib.hid (own_below HOR.out hb2)
    have HCR2 := Lib.hid (HCR.out.below hb2)
    clear x0 hb2
    cases D with
    | true =>
      have HD2 := Lib.hid (HD.out.struck HX.out HDD.out)
      go_wp2_with fail
      go_roundw
      case rel => exact ⟨kk, q + 1, R, by omega, by omega, rfl, by go_num, HD2, HOR2, HCR2⟩
      case measure => simp [intOf]; omega
    | false =>
      have HD2 := Lib.hid (HD.out.stays HX.out HDD.out)
      obtain ⟨y, hy⟩ : ∃ y, R[kk]? = some y := ⟨_, List.getElem?_eq_getElem (by rw [HD.out.len, HN.out]; omega)⟩
      obtain ⟨y0, yf⟩ := own_elI (i := kk) HOR2.out hy
      have hst := HOR2.out.stored kk (.int .i64 x)
      have HOR3 : Hid ((w2.setCell ⟨g, kk, none⟩ (.int .i64 x)).ownsRow B 3 1 (.slice (some ⟨g, 0, none⟩) n c) n ((R.set kk x).map (Value.int .i64))) := Lib.hid (by rw [List.map_set]; exact hst.1)
      have HCR3 := Lib.hid (HCR2.out.grown hst.2 HOR2.out hwB)
      clear hy hst
      go_wp2_with fail
      go_roundw
      case rel => exact ⟨kk + 1, q + 1, R.set kk x, by omega, by omega, by go_num, by go_num, HD2, HOR3, HCR3⟩
      case measure => simp [intOf]; omega
end Go.Proofs.Ytlfhcjhbnakamaa.Iy
