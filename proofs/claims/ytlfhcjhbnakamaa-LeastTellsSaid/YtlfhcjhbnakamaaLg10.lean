/-
  Sieves: Clone and Compact at uint64.
-/
import Derived.Test.YtlfhcjhbnakamaaLg1
import Derived.Test.YtlfhcjhbnakamaaLg6
import Derived.Test.YtlfhcjhbnakamaaLg7
import Derived.Test.YtlfhcjhbnakamaaLg9
import Derived.Lib.SmallJoins
import Derived.Lib.SliceRun
import Derived.Lib.SlicesCompact
namespace Go.Proofs.Ytlfhcjhbnakamaa.Lst
open Go.RowKit Go.Gh Go.Proofs.Ytlfhcjhbnakamaa.Qs
set_option linter.unusedVariables false
set_option linter.unusedSimpArgs false
theorem infoU64 : (Try.prog.info? 22).map (fun i => (i.zero, i.size, i.bytes)) = some (some (.int .u64 0), 1, 8) := by kernel_rfl
theorem elU64 : Elem Try.prog 44 22 1 8 := elem_of Try.underlying44 infoU64 rfl (by decide)
theorem ints_one (k : IntKind) (l : List Int) : ∀ u ∈ l.map (Value.int k), u.oneCell' = true := by
  intro u hu; simp at hu; obtain ⟨z, _, rfl⟩ := hu; rfl
theorem clone_u64 (v : Value) (n : Nat) (l : List Int) (w : World) (hv : Sl w 1 v n (l.map (Value.int .u64))) (hn : n ≤ 1000000) :
    Calls Try.prog 57 #[v] w fun e w' => ∃ v', e = .returned v' ∧ w'.ownsRow w.heap.size 22 1 v' n (l.map (Value.int .u64)) ∧ Below w.heap.size w w' := by
  obtain ⟨ao, c, rfl, hnc, hc, hlen⟩ := hv.shape
  have HN := Lib.hid hn
  clear hn
  cases ao with
  | none =>
    have hn0 : n = 0 := by
      obtain ⟨ao', cap, h1, h2, _, h4, _, h6⟩ := hv
      simp at h1
      have := h4 h1.1.symm
      omega
    subst hn0
    have hl : l = [] := by simpa using hlen
    subst hl
    have he := Lib.run_eql_slice_nil (P := Try.prog) w 44 22 none 0 c 0 0 Try.underlying44
    go_enter Try.func57, Try.ntmps57
    go_wp2_with fail
    go_ret
    exact ⟨_, rfl, World.ownsRow_nil _ _ _ _, Below.refl _ _⟩
  | some a =>
    have he := Lib.run_eql_slice_nil (P := Try.prog) w 44 22 (some a) n c 0 0 Try.underlying44
    have ho := own_build (e := 22) (size := 1) (n := 0) w [] (Nat.le_refl _) rfl (by decide)
    have hs2 := hv.alloc (Obj.cells ([] : List Value).toArray 22)
    clear hlen
    go_enter Try.func57, Try.ntmps57
    go_wp2_with (at_builtin; refine appendS elU64 rfl _ _ rfl ho ((Below.refl _ _).alloc (Nat.le_refl _) _) ?c1 rfl rfl hs2 (ints_one _ _) ?c2 ?c3 ?_)
    case c1 => simp
    case c2 => have := HN.out; omega
    case c3 => have := HN.out; omega
    intro v' w1 hown' hbel' _
    go_wp2
    go_ret
    exact ⟨v', rfl, by simpa using hown', hbel'⟩
/-- A row of one's own, seen shorter. -/
theorem own_shorter {w : World} {B : Nat} {e : TypeId} {k g n cap m : Nat} {xs : List Value} (h : w.ownsRow B e k (.slice (some ⟨g, 0, none⟩) n cap) n xs) (hm : m ≤ n) : w.ownsRow B e k (.slice (some ⟨g, 0, none⟩) m cap) m (xs.take (m * k)) := by
  obtain ⟨hl, h2⟩ := h
  have hmk : m * k ≤ n * k := Nat.mul_le_mul_right _ hm
  rcases h2 with ⟨e1, _⟩ | ⟨g', cap', cur, e1, hb, hg, hnc, hcm, hsz, htk⟩
  · simp at e1
  · simp at e1
    obtain ⟨rfl, rfl⟩ := e1
    exact ⟨by rw [List.length_take]; omega, Or.inr ⟨g, cap, cur, rfl, hb, hg, by omega, hcm, hsz, by rw [← htk, List.take_take, Nat.min_eq_left hmk]⟩⟩
/-- clear of the last elements of a row of one's own. -/
theorem clear_own {P : Program} {w : World} {t e ty : TypeId} {k g n cap i m c B : Nat} {z : Value} {xs zs : List Value} (ht : P.underlying t = some (.slice e)) (hv : ∀ w, (zeroValue e).run P w = .ok z w) (hz : (Builtin.zeroCells z.cells (m + 1)).toList = zs)
    (h : w.ownsRow B e k (.slice (some ⟨g, 0, none⟩) n cap) n xs) (hzl : zs.length = (m + 1) * k) (hfit : i * k + (m + 1) * k ≤ n * k) (h1 : ∀ u ∈ zs, u.oneCell' = true) :
    (Builtin.clear_ #[t] ty #[.slice (some ⟨g, i * k, none⟩) (m + 1) c]).run P w = .ok (.tuple #[]) (setCells w g (i * k) zs) ∧ (setCells w g (i * k) zs).ownsRow B e k (.slice (some ⟨g, 0, none⟩) n cap) n (setFrom xs (i * k) zs) := by
  refine ⟨?_, own_stores zs w (i * k) xs h⟩
  have hl : xs.length = n * k := h.1
  have hst := run_storeCells_cells (P := P) g (i * k) zs 0 w (fun j hj => by
    have hx : i * k + j < xs.length := by omega
    have hc := h.cells (g := g) rfl (i * k + j) _ (List.getElem?_eq_getElem hx)
    rw [addr_add, Nat.zero_add] at hc
    rw [Nat.add_zero, hc]
    rfl) (fun j hj => h.frozenAt _) h1
  simp only [Nat.add_zero] at hst
  simp [Builtin.clear_, run_underlying ht, hv, hz, hst, setCells_eq]
theorem setFrom_take : ∀ (us xs : List Value) (k o : Nat), o ≤ k → (setFrom xs k us).take o = xs.take o
  | [], xs, k, o, h => rfl
  | u :: us, xs, k, o, h => by
    show (setFrom (xs.set k u) (k + 1) us).take o = _
    rw [setFrom_take us _ _ _ (by omega), List.take_set, List.set_eq_of_length_le (by rw [List.length_take]; omega)]
theorem zc_one (m : Nat) : ∀ u ∈ (Builtin.zeroCells (Value.int .u64 0).cells m).toList, u.oneCell' = true := by
  intro u hu
  unfold Builtin.zeroCells at hu
  simp [Value.cells] at hu
  obtain ⟨i, -, rfl⟩ := hu
  simp [Nat.mod_one]
  rfl
/-- What the row holds while it is compacted: k kept, the j-th is next. -/
structure CpU (l R : List Int) (k j : Nat) : Prop where
  len : R.length = l.length
  le : k < j
  kept : R.take k = Lib.compactUpTo l.toArray j
  rest : ∀ i, j ≤ i + 1 → R[i]? = l[i]?
theorem cu_skip {l : List Int} {j : Nat} {x y : Int} (hj : 0 < j) (hx : l[j - 1]? = some x) (hy : l[j]? = some y) (he : y = x) : Lib.compactUpTo l.toArray (j + 1) = Lib.compactUpTo l.toArray j := by
  have e1 : l.toArray[j]! = y := by rw [getElem!_def]; simp [hy]
  have e2 : l.toArray[j - 1]! = x := by rw [getElem!_def]; simp [hx]
  rw [Lib.compactUpTo_succ, Lib.keeps_neg hj (by rw [e1, e2, he])]
  simp
theorem cu_put {l : List Int} {j : Nat} {x y : Int} (hx : l[j - 1]? = some x) (hy : l[j]? = some y) (he : ¬ y = x) : Lib.compactUpTo l.toArray (j + 1) = Lib.compactUpTo l.toArray j ++ [y] := by
  have e1 : l.toArray[j]! = y := by rw [getElem!_def]; simp [hy]
  have e2 : l.toArray[j - 1]! = x := by rw [getElem!_def]; simp [hx]
  rw [Lib.compactUpTo_succ, Lib.keeps_pos (by rw [e1, e2]; exact he), e1]
  simp
theorem CpU.skip {l R : List Int} {k j : Nat} {x y : Int} (h : CpU l R k j) (hx : l[j - 1]? = some x) (hy : l[j]? = some y) (he : y = x) : CpU l R k (j + 1) :=
  ⟨h.len, by have := h.le; omega, by rw [cu_skip (by have := h.le; omega) hx hy he]; exact h.kept, fun i' hi => h.rest i' (by omega)⟩
theorem CpU.put {l R : List Int} {k j : Nat} {x y : Int} (h : CpU l R k j) (hx : l[j - 1]? = some x) (hy : l[j]? = some y) (he : ¬ y = x) : CpU l (R.set k y) (k + 1) (j + 1) := by
  have hl := h.le
  have hjl := (List.getElem?_eq_some_iff.1 hy).1
  have hk : k < R.length := by rw [h.len]; omega
  refine ⟨by rw [List.length_set]; exact h.len, by omega, ?_, fun i' hi => ?_⟩
  · rw [cu_put hx hy he, ← h.kept, List.take_succ_eq_append_getElem (by rw [List.length_set]; exact hk), List.getElem_set_self, List.take_set, List.set_eq_of_length_le (by rw [List.length_take]; omega)]
  · rw [List.getElem?_set_ne (by omega)]
    exact h.rest i' (by omega)
section
variable {w : World} {B g n cap i : Nat} {R : List Int} {x : Int}
theorem own_elU (h : w.ownsRow B 22 1 (.slice (some ⟨g, 0, none⟩) n cap) n (u64 R)) (hx : R[i]? = some x) : w.cell? ⟨g, i, none⟩ = some (.int .u64 x) ∧ w.frozen? ⟨g, i, none⟩ = false := by
  have hc := h.cells (g := g) rfl i (.int .u64 x) (by unfold u64; rw [List.getElem?_map, hx]; rfl)
  rw [addr_add, Nat.zero_add] at hc
  exact ⟨hc, h.frozenAt _⟩
theorem own_setU (h : w.ownsRow B 22 1 (.slice (some ⟨g, 0, none⟩) n cap) n (u64 R)) (hi : i < R.length) : (w.setCell ⟨g, i, none⟩ (.int .u64 x)).ownsRow B 22 1 (.slice (some ⟨g, 0, none⟩) n cap) n (u64 (R.set i x)) := by
  have h1 := (h.stored i (.int .u64 x)).1
  have e : (u64 R).set i (.int .u64 x) = u64 (R.set i x) := by unfold u64; rw [List.map_set]
  rw [e] at h1
  exact h1
end
def CmP (v : Value) (B : Nat) (l : List Int) (w : World) (e : Ending) (w' : World) : Prop := ∃ v', e = .returned v' ∧ w'.ownsRow B 22 1 v' (Lib.compact l).length (u64 (Lib.compact l)) ∧ w.grownBy w' v.ownBlock
set_option maxHeartbeats 8000000 in
set_option maxRecDepth 100000 in
theorem compactU_any (v : Value) (B : Nat) (l : List Int) (w : World) (h : w.ownsRow B 22 1 v l.length (u64 l)) (hl : l.length ≤ 1000000) (hB : B ≤ w.heap.size) :
    Calls Try.prog 87 #[v] w (CmP v B l w) := by
  obtain ⟨n, hn⟩ : ∃ n, l.length = n := ⟨_, rfl⟩
  by_cases h2 : n < 2
  · have HR : Hid (w.ownsRow B 22 1 v (Lib.compact l).length (u64 (Lib.compact l))) := Lib.hid (by
      have : Lib.compact l = l := by
        match l, hn with
        | [], _ => rfl
        | [x], _ => rfl
        | x :: y :: r, hn => simp at hn; omega
      rw [this]
      exact h)
    rw [hn] at h
    obtain ⟨uo, uc, rfl, hu1, hu2, -⟩ := own_shape h
    have t1 : decide ((n : Int) < 2) = true := decide_eq_true (by omega)
    go_enter Try.func87, Try.ntmps87
    go_wp2_with fail
    go_ret
    exact ⟨_, rfl, HR.out, World.grownBy.refl _ _⟩
  rw [hn] at h hl
  obtain ⟨g, cap, rfl, hgB, hgl, hcap, hcapm, -⟩ := own_some h (by omega)
  have HN := Lib.hid hn
  have HO := Lib.hid h
  have t1 : decide ((n : Int) < 2) = false := decide_eq_false (by omega)
  have HH : Hid (l.take 1 = Lib.compactUpTo l.toArray 1) := Lib.hid (by
    match l, hn with
    | x :: r, _ => rfl
    | [], hn => simp at hn; omega)
  clear h hn
  go_enter Try.func87, Try.ntmps87
  go_wp2_with fail
  go_loopw [3] (fun i wr => ∃ k : Nat, k + 1 ≤ n ∧ i = .int .i64 ((k : Int) + 1) ∧ Hid (l.take (k + 1) = Lib.compactUpTo l.toArray (k + 1)) ∧ Hid (wr.ownsRow B 22 1 (.slice (some ⟨g, 0, none⟩) n cap) n (u64 l)) ∧ Hid (w.grownBy wr (some g))) (fun i _ => n - (intOf i).toNat)
  case atStart => exact ⟨0, by omega, rfl, HH, HO, Lib.hid (World.grownBy.refl _ _)⟩
  case round =>
    obtain ⟨k, hj, rfl, HK, HOW, hbel⟩ := hrel
    have hsz : B ≤ wr.heap.size := Nat.le_trans hB hbel.out.size
    by_cases hlt : k + 1 < n
    case neg =>
      have hjn : k + 1 = n := by omega
      have HR : Hid (wr.ownsRow B 22 1 (.slice (some ⟨g, 0, none⟩) n cap) (Lib.compact l).length (u64 (Lib.compact l))) := Lib.hid (by
        have e : Lib.compact l = l := by
          have := HK.out
          rw [hjn, List.take_of_length_le (by rw [HN.out]; exact Nat.le_refl _)] at this
          unfold Lib.compact
          rw [HN.out, ← this]
        rw [e, HN.out]
        exact HOW.out)
      go_wp2_with fail
      go_ret
      exact ⟨_, rfl, HR.out, hbel.out⟩
    obtain ⟨x, hx⟩ : ∃ x, l[k]? = some x := ⟨_, List.getElem?_eq_getElem (by rw [HN.out]; omega)⟩
    obtain ⟨y, hy⟩ : ∃ y, l[k + 1]? = some y := ⟨_, List.getElem?_eq_getElem (by rw [HN.out]; omega)⟩
    obtain ⟨x0, -⟩ := own_elU HOW.out hx
    obtain ⟨y0, -⟩ := own_elU HOW.out hy
    have HX := Lib.hid hx
    have HY := Lib.hid hy
    have HBL := hbel
    have hkn : k < n := by omega
    have hk0 : (0 : Int) ≤ (k : Int) := by omega
    have hk1 : (k : Int) < (n : Int) := by omega
    have hk2 : (k : Int) ≤ (n : Int) := by omega
    have hj0 : (0 : Int) ≤ (k : Int) + 1 := by omega
    have hj1 : (k : Int) + 1 < (n : Int) := by omega
    have hjt : ((k : Int) + 1).toNat = k + 1 := by omega
    have hwr : IntKind.i64.wrap (k : Int) = (k : Int) := by rw [IntKind.wrap_i64]; omega
    have hwr2 : IntKind.i64.wrap ((k : Int) + 1 - 1) = (k : Int) := by rw [IntKind.wrap_i64]; omega
    clear hx hy hbel
    obtain ⟨E, hE⟩ : ∃ E, (y == x) = E := ⟨_, rfl⟩
    have HE := Lib.hid hE
    go_wp2_with fail
    go_quiet (fail)
    have HO2 : Hid ((wr.drewN nq).ownsRow B 22 1 (.slice (some ⟨g, 0, none⟩) n cap) n (u64 l)) := Lib.hid (own_below HOW.out (below_drewN (Below.refl _ _) _))
    have HB2 : Hid (w.grownBy (wr.drewN nq) (some g)) := Lib.hid (grown_drewN HBL.out _)
    obtain ⟨w2, hw2⟩ : ∃ w2, w2 = wr.drewN nq := ⟨_, rfl⟩
    rw [← hw2] at HO2 HB2 ⊢
    have hs2 : B ≤ w2.heap.size := by rw [hw2]; exact hsz
    clear hw2 x0 y0
    cases E with
    | false =>
      have HK2 : Hid (l.take (k + 2) = Lib.compactUpTo l.toArray (k + 2)) := Lib.hid (by
        rw [cu_put (j := k + 1) HX.out HY.out (by have := HE.out; simpa using this), ← HK.out]
        obtain ⟨h3, h4⟩ := List.getElem?_eq_some_iff.1 HY.out
        rw [List.take_succ_eq_append_getElem h3, h4])
      clear hE
      go_wp2_with fail
      go_roundw
      case rel => exact ⟨k + 1, by omega, by go_num, HK2, HO2, HB2⟩
      case measure => simp [intOf]; omega
    | true =>
      have hyx : y = x := by have := HE.out; simpa using this
      have HC0 : Hid (CpU l l (k + 1) (k + 2)) := Lib.hid ⟨rfl, by omega, by rw [cu_skip (j := k + 1) (by omega) HX.out HY.out hyx, HK.out], fun i _ => rfl⟩
      clear hyx hE
      obtain ⟨m, hm⟩ : ∃ m, n - (k + 1) = m := ⟨_, rfl⟩
      have hcp : (cap = k + 1) = False := eq_false (by omega)
      have hkc : k + 1 ≤ cap := by omega
      go_wp2_with fail
      go_loopw [3, 5] (fun a b wr => ∃ (kk q : Nat) (R : List Int), k + 2 + q ≤ n ∧ kk < k + 2 + q ∧ a = .int .i64 kk ∧ b = .int .i64 ((q : Int) + 1) ∧ Hid (CpU l R kk (k + 2 + q)) ∧ Hid (wr.ownsRow B 22 1 (.slice (some ⟨g, 0, none⟩) n cap) n (u64 R)) ∧ Hid (w.grownBy wr (some g))) (fun _ b _ => n - (intOf b).toNat)
      case atStart => exact ⟨k + 1, 0, l, by omega, by omega, by go_num, rfl, HC0, HO2, HB2⟩
      case round =>
        obtain ⟨kk, q, R, hq, hkq, rfl, rfl, HC, HOR, hbel⟩ := hrel
        have hsz2 : B ≤ wr.heap.size := Nat.le_trans hB hbel.out.size
        have HBL2 := hbel
        clear hbel
        by_cases hlq : k + 2 + q < n
        case neg =>
          have hqn : k + 2 + q = n := by omega
          obtain ⟨r, hr⟩ : ∃ r, n - kk = r + 1 := ⟨n - kk - 1, by omega⟩
          obtain ⟨zs, hzs⟩ : ∃ zs, (Builtin.zeroCells (Value.int .u64 0).cells (r + 1)).toList = zs := ⟨_, rfl⟩
          have hz1 : ∀ u ∈ zs, u.oneCell' = true := by rw [← hzs]; exact zc_one _
          have hzl : zs.length = (r + 1) * 1 := by rw [← hzs, Array.length_toList, size_zeroCells]; rfl
          have hcl := fun ty c => clear_own (P := Try.prog) (ty := ty) (c := c) (m := r) (i := kk) (zs := zs) Try.underlying44 Try.zeroValue22 hzs HOR.out hzl (by omega) hz1
          have hfin := own_shorter (hcl 0 0).2 (m := kk) (by omega)
          have hlen : (Lib.compact l).length = kk := by
            have h1 := congrArg List.length HC.out.kept
            rw [hqn, List.length_take, HC.out.len, HN.out] at h1
            unfold Lib.compact
            rw [HN.out, ← h1]
            omega
          have hk9 : u64 R = u64 R := rfl
          rw [setFrom_take _ _ _ _ (Nat.le_refl _)] at hfin
          have e9 : (u64 R).take (kk * 1) = u64 (Lib.compact l) := by
            unfold u64 Lib.compact
            rw [Nat.mul_one, ← List.map_take, HC.out.kept, hqn, HN.out]
          rw [e9] at hfin
          have hcl2 := fun ty c => (hcl ty c).1
          have hbn := grown_cells (w := w) (b := g) (r := some g) (Or.inr rfl) zs wr (kk * 1) HBL2.out
          obtain ⟨W2, hW2⟩ : ∃ W2, W2 = setCells wr g (kk * 1) zs := ⟨_, rfl⟩
          rw [← hW2] at hcl2 hfin hbn
          rw [Nat.mul_one] at hcl2
          have HR : Hid (W2.ownsRow B 22 1 (.slice (some ⟨g, 0, none⟩) kk cap) (Lib.compact l).length (u64 (Lib.compact l))) := Lib.hid (by rw [hlen]; exact hfin)
          have HBN := Lib.hid hbn
          have hcp2 : (cap = kk) = False := eq_false (by omega)
          have hkc2 : kk ≤ cap := by omega
          have hkn2 : (kk : Int) ≤ (n : Int) := by omega
          have hk02 : (0 : Int) ≤ (kk : Int) := by omega
          clear hcl hfin hbn hW2 hlen hzs hz1 hzl e9 hk9
          go_wp2_with fail
          go_ret
          exact ⟨_, rfl, HR.out, HBN.out⟩
        obtain ⟨x2, hx2⟩ : ∃ x, l[k + 1 + q]? = some x := ⟨_, List.getElem?_eq_getElem (by rw [HN.out]; omega)⟩
        obtain ⟨y2, hy2⟩ : ∃ y, l[k + 2 + q]? = some y := ⟨_, List.getElem?_eq_getElem (by rw [HN.out]; omega)⟩
        obtain ⟨x0, -⟩ := own_elU (i := k + 1 + q) HOR.out ((HC.out.rest _ (by omega)).trans hx2)
        obtain ⟨y0, -⟩ := own_elU (i := k + 2 + q) HOR.out ((HC.out.rest _ (by omega)).trans hy2)
        rw [show k + 2 + q = k + 1 + (q + 1) by omega] at y0
        have HX2 := Lib.hid hx2
        have HY2 := Lib.hid hy2
        have hqm : q < m := by omega
        have hqm1 : q + 1 < m := by omega
        have hq0 : (0 : Int) ≤ (q : Int) := by omega
        have hq1 : (q : Int) < (m : Int) := by omega
        have hq2 : (q : Int) + 1 < (m : Int) := by omega
        have hq3 : (0 : Int) ≤ (q : Int) + 1 := by omega
        have hqt : ((q : Int) + 1).toNat = q + 1 := by omega
        have hqw : IntKind.i64.wrap (q : Int) = (q : Int) := by rw [IntKind.wrap_i64]; omega
        have hqw2 : IntKind.i64.wrap ((q : Int) + 1 - 1) = (q : Int) := by rw [IntKind.wrap_i64]; omega
        obtain ⟨E, hE⟩ : ∃ E, (y2 == x2) = E := ⟨_, rfl⟩
        have hE' : (y2 != x2) = !E := by rw [← hE]; rfl
        have HE2 := Lib.hid hE
        clear hx2 hy2
        go_wp2_with fail
        go_quiet (fail)
        have HO3 : Hid ((wr.drewN nq).ownsRow B 22 1 (.slice (some ⟨g, 0, none⟩) n cap) n (u64 R)) := Lib.hid (own_below HOR.out (below_drewN (Below.refl _ _) _))
        have HB3 : Hid (w.grownBy (wr.drewN nq) (some g)) := Lib.hid (grown_drewN HBL2.out _)
        obtain ⟨w3, hw3⟩ : ∃ w2, w2 = wr.drewN nq := ⟨_, rfl⟩
        rw [← hw3] at HO3 HB3 ⊢
        clear hw3 x0
        cases E with
        | true =>
          have HC2 : Hid (CpU l R kk (k + 2 + q + 1)) := Lib.hid (HC.out.skip (x := x2) (by rw [show k + 2 + q - 1 = k + 1 + q by omega]; exact HX2.out) HY2.out (by have := HE2.out; simpa using this))
          clear hE hE' y0
          go_wp2_with fail
          go_roundw
          case rel => exact ⟨kk, q + 1, R, by omega, by omega, rfl, by go_num, HC2, HO3, HB3⟩
          case measure => simp [intOf]; omega
        | false =>
          have HC2 : Hid (CpU l (R.set kk y2) (kk + 1) (k + 2 + q + 1)) := Lib.hid (HC.out.put (x := x2) (by rw [show k + 2 + q - 1 = k + 1 + q by omega]; exact HX2.out) HY2.out (by have := HE2.out; simpa using this))
          have hkR : kk < R.length := by rw [HC.out.len, HN.out]; omega
          obtain ⟨u, hu⟩ : ∃ u, R[kk]? = some u := ⟨_, List.getElem?_eq_getElem hkR⟩
          obtain ⟨u0, f0⟩ := own_elU HO3.out hu
          obtain ⟨y1, -⟩ := own_elU (i := k + 1 + (q + 1)) HO3.out ((HC.out.rest _ (by omega)).trans (by rw [show k + 1 + (q + 1) = k + 2 + q by omega]; exact HY2.out))
          have hon := own_setU (x := y2) HO3.out hkR
          have HON := Lib.hid hon
          have HBN : Hid (w.grownBy (w3.setCell ⟨g, kk, none⟩ (.int .u64 y2)) (some g)) := Lib.hid (grown_setCell HB3.out kk _)
          have hkn2 : (kk : Int) < (n : Int) := by omega
          have hkn3 : kk < n := by omega
          clear hon hu hkR hE hE' y0
          go_wp2_with fail
          go_roundw
          case rel => exact ⟨kk + 1, q + 1, _, by omega, by omega, by go_num, by go_num, HC2, HON, HBN⟩
          case measure => simp [intOf]; omega
end Go.Proofs.Ytlfhcjhbnakamaa.Lst
/-
  Blocks of the call's own that hold a struct.
-/
namespace Go.Gh
open Go.RowKit
set_option linter.unusedVariables false
theorem box_over {w : World} {b : Nat} {T : TypeId} {cs us : List Value} (h : w.heap[b]? = some (.cells cs.toArray T (0, 0))) (hl : cs.length = us.length) : (setCells w b 0 us).heap[b]? = some (.cells us.toArray T (0, 0)) := by
  have := row_stores us w 0 cs h
  rwa [setFrom_all _ _ hl] at this
section
variable {w : World} {B : Nat} {T : TypeId} {a b c d e f : Value}
theorem bx2 (h : w.heap[B]? = some (.cells #[a, b] T (0, 0))) : (w.cell? ⟨B, 0, none⟩ = some a ∧ w.cell? ⟨B, 1, none⟩ = some b) ∧ (w.frozen? ⟨B, 0, none⟩ = false ∧ w.frozen? ⟨B, 1, none⟩ = false) :=
  ⟨⟨(row_cell 0 _ h rfl).1, (row_cell 1 _ h rfl).1⟩, ⟨(row_cell 0 a h rfl).2, (row_cell 1 b h rfl).2⟩⟩
theorem bx3 (h : w.heap[B]? = some (.cells #[a, b, c] T (0, 0))) : (w.cell? ⟨B, 0, none⟩ = some a ∧ w.cell? ⟨B, 1, none⟩ = some b ∧ w.cell? ⟨B, 2, none⟩ = some c) ∧ (w.frozen? ⟨B, 0, none⟩ = false ∧ w.frozen? ⟨B, 1, none⟩ = false ∧ w.frozen? ⟨B, 2, none⟩ = false) :=
  ⟨⟨(row_cell 0 _ h rfl).1, (row_cell 1 _ h rfl).1, (row_cell 2 _ h rfl).1⟩, ⟨(row_cell 0 a h rfl).2, (row_cell 1 b h rfl).2, (row_cell 2 c h rfl).2⟩⟩
theorem bx4 (h : w.heap[B]? = some (.cells #[a, b, c, d] T (0, 0))) : (w.cell? ⟨B, 0, none⟩ = some a ∧ w.cell? ⟨B, 1, none⟩ = some b ∧ w.cell? ⟨B, 2, none⟩ = some c ∧ w.cell? ⟨B, 3, none⟩ = some d) ∧
    (w.frozen? ⟨B, 0, none⟩ = false ∧ w.frozen? ⟨B, 1, none⟩ = false ∧ w.frozen? ⟨B, 2, none⟩ = false ∧ w.frozen? ⟨B, 3, none⟩ = false) :=
  ⟨⟨(row_cell 0 _ h rfl).1, (row_cell 1 _ h rfl).1, (row_cell 2 _ h rfl).1, (row_cell 3 _ h rfl).1⟩, ⟨(row_cell 0 a h rfl).2, (row_cell 1 b h rfl).2, (row_cell 2 c h rfl).2, (row_cell 3 d h rfl).2⟩⟩
theorem bx6 (h : w.heap[B]? = some (.cells #[a, b, c, d, e, f] T (0, 0))) : (w.cell? ⟨B, 0, none⟩ = some a ∧ w.cell? ⟨B, 1, none⟩ = some b ∧ w.cell? ⟨B, 2, none⟩ = some c ∧ w.cell? ⟨B, 3, none⟩ = some d ∧ w.cell? ⟨B, 4, none⟩ = some e ∧ w.cell? ⟨B, 5, none⟩ = some f) ∧
    (w.frozen? ⟨B, 0, none⟩ = false ∧ w.frozen? ⟨B, 1, none⟩ = false ∧ w.frozen? ⟨B, 2, none⟩ = false ∧ w.frozen? ⟨B, 3, none⟩ = false ∧ w.frozen? ⟨B, 4, none⟩ = false ∧ w.frozen? ⟨B, 5, none⟩ = false) :=
  ⟨⟨(row_cell 0 _ h rfl).1, (row_cell 1 _ h rfl).1, (row_cell 2 _ h rfl).1, (row_cell 3 _ h rfl).1, (row_cell 4 _ h rfl).1, (row_cell 5 _ h rfl).1⟩, ⟨(row_cell 0 a h rfl).2, (row_cell 1 b h rfl).2, (row_cell 2 c h rfl).2, (row_cell 3 d h rfl).2, (row_cell 4 e h rfl).2, (row_cell 5 f h rfl).2⟩⟩
end
end Go.Gh
/-
  Sieves: how they read; the walks of Check, LeastFault, Empty, SameLeast.
-/
namespace Go.Proofs.Ytlfhcjhbnakamaa.Lst
open Go.RowKit Go.Gh Go.Proofs.Ytlfhcjhbnakamaa.Qs
set_option linter.unusedVariables false
set_option linter.unusedSimpArgs false
theorem drew_add (w : World) (a b : Nat) : (w.drewN a).drewN b = w.drewN (a + b) := by
  induction b with
  | zero => rfl
  | succ b ih => show ((w.drewN a).drewN b).drew = _; rw [ih]; rfl
/-- A sieve by value. -/
def LsV (w : World) (v : Value) (s : Ls) : Prop := ∃ t, v = .agg #[.int .i64 s.k, t] ∧ Sl w 1 t s.h.length (s.h.map (Value.int .u64)) ∧ (∀ z ∈ s.h, U64 z) ∧ -9223372036854775808 ≤ s.k ∧ s.k < 9223372036854775808 ∧ s.h.length ≤ 140737488355328
theorem LsV.below {w w' : World} {v : Value} {s : Ls} (h : LsV w v s) (hb : Below w.heap.size w w') : LsV w' v s := by
  obtain ⟨t, h1, h2, h3⟩ := h
  exact ⟨t, h1, h2.below hb, h3⟩
theorem box_ls (w : World) (u0 u1 : Value) : ∃ wa, wa = w.alloc (Obj.cells #[u0, u1] 46) ∧ wa.heap[w.heap.size]? = some (.cells #[u0, u1] 46 (0, 0)) ∧ Below w.heap.size w wa ∧ w.heap.size < wa.heap.size :=
  ⟨_, rfl, heap_alloc_new w _, (Below.refl _ _).alloc (Nat.le_refl _) _, by simp⟩
theorem sl_elU {w : World} {ao : Option Addr} {n c i : Nat} {l : List Int} {x : Int} (h : Sl w 1 (.slice ao n c) n (l.map (Value.int .u64))) (hx : l[i]? = some x) (hi : i < n) : ∃ b off, ao = some ⟨b, off, none⟩ ∧ w.cell? ⟨b, off + i, none⟩ = some (.int .u64 x) := by
  obtain ⟨ao', cap, e, h1, h2, h3, h4, h5⟩ := h
  simp at e
  obtain ⟨rfl, rfl⟩ := e
  obtain ⟨b, off, rfl, hc⟩ := h5 (by omega)
  exact ⟨b, off, rfl, hc i _ (by rw [List.getElem?_map, hx]; rfl)⟩
set_option maxHeartbeats 8000000 in
set_option maxRecDepth 100000 in
theorem lcheck_any (v : Value) (s : Ls) (w : World) (hv : LsV w v s) : Calls Try.prog 35 #[v] w fun e w' => e = .returned (.int .i64 (lsF s)) ∧ Below w.heap.size w w' := by
  obtain ⟨t, rfl, hs, -, hk1, hk2, hn9⟩ := hv
  obtain ⟨K, l⟩ := s
  have hs : Sl w 1 t l.length (l.map (Value.int .u64)) := hs
  have hk1 : -9223372036854775808 ≤ K := hk1
  have hk2 : K < 9223372036854775808 := hk2
  have hn9 : l.length ≤ 140737488355328 := hn9
  show Calls Try.prog 35 #[.agg #[.int .i64 K, t]] w _
  obtain ⟨n, hn⟩ : ∃ n, l.length = n := ⟨_, rfl⟩
  obtain ⟨F, hF⟩ : ∃ F, lsF ⟨K, l⟩ = F := ⟨_, rfl⟩
  rw [hF]
  have hF2 : F = if K < 2 ∨ 64 < K ∨ K < (n : Int) then 4 else if risB l = true then 0 else 4 := by rw [← hF, ← hn]; rfl
  have HF := Lib.hid hF2
  rw [hn] at hs hn9
  obtain ⟨ao, c, rfl, hnc, hc, -⟩ := hs.shape
  have HN := Lib.hid hn
  obtain ⟨wa, hwa, hbox, hba, hsa⟩ := box_ls w (.int .i64 K) (.slice ao n c)
  have HS := Lib.hid (hs.below hba)
  have HWA := Lib.hid hwa
  have HBA := Lib.hid hba
  obtain ⟨⟨d0, d1⟩, -⟩ := bx2 hbox
  obtain ⟨bx, hbx⟩ : ∃ bx, w.heap.size = bx := ⟨_, rfl⟩
  rw [hbx] at d0 d1
  have HBE := Lib.hid hbx
  clear hs hn hF hF2 hwa hba hsa hbox hbx
  go_enter Try.func35, Try.ntmps35
  go_upto_region 1 with (fail)
  rw [HBE.out, ← HWA.out]
  by_cases g1 : K < 2
  · have hf : F = 4 := by rw [HF.out]; exact if_pos (Or.inl g1)
    subst hf
    go_wp2_with fail
    go_ret
    exact ⟨rfl, HBA.out⟩
  by_cases g2 : 64 < K
  · have hf : F = 4 := by rw [HF.out]; exact if_pos (Or.inr (Or.inl g2))
    subst hf
    go_wp2_with fail
    go_ret
    exact ⟨rfl, HBA.out⟩
  by_cases g3 : K < (n : Int)
  · have hf : F = 4 := by rw [HF.out]; exact if_pos (Or.inr (Or.inr g3))
    subst hf
    go_wp2_with fail
    go_ret
    exact ⟨rfl, HBA.out⟩
  have HF3 : Hid (F = if risB l = true then 0 else 4) := Lib.hid (by rw [HF.out]; exact if_neg (by omega))
  have hn64 : n ≤ 64 := by omega
  go_wp2_with fail
  go_loopw [3] (fun i wr => ∃ k : Nat, k ≤ 64 ∧ i = .int .i64 ((k : Int) + 1) ∧ Hid (RisK l (k + 1)) ∧ ∃ q, Hid (wr = wa.drewN q)) (fun i _ => n - (intOf i).toNat)
  case atStart => exact ⟨0, by omega, rfl, Lib.hid (fun i x y h => by omega), 0, Lib.hid rfl⟩
  case round =>
    obtain ⟨k, hk, rfl, HK, q, HQ⟩ := hrel
    have HBR : Hid (Below w.heap.size w wr) := Lib.hid (by rw [HQ.out]; exact below_drewN HBA.out _)
    have e0 : wr.cell? ⟨bx, 0, none⟩ = some (.int .i64 K) := by rw [HQ.out]; exact d0
    have e1 : wr.cell? ⟨bx, 1, none⟩ = some (.slice ao n c) := by rw [HQ.out]; exact d1
    by_cases hlt : k + 1 < n
    case neg =>
      have hr : risB l = true := risB_all (fun i x y h1 h2 => HK.out i x y (by have := (List.getElem?_eq_some_iff.1 h2).1; have := HN.out; omega) h1 h2)
      have hf : F = 0 := by rw [HF3.out]; exact if_pos hr
      subst hf
      clear hr
      go_wp2_with fail
      go_ret
      exact ⟨rfl, HBR.out⟩
    obtain ⟨x, hx⟩ : ∃ x, l[k]? = some x := ⟨_, List.getElem?_eq_getElem (by rw [HN.out]; omega)⟩
    obtain ⟨y, hy⟩ : ∃ y, l[k + 1]? = some y := ⟨_, List.getElem?_eq_getElem (by rw [HN.out]; omega)⟩
    have HSR : Hid (Sl wr 1 (.slice ao n c) n (l.map (Value.int .u64))) := Lib.hid (by rw [HQ.out]; exact HS.out)
    obtain ⟨b, off, rfl, x0⟩ := sl_elU HSR.out hx (by omega)
    obtain ⟨b', off', e', y0⟩ := sl_elU HSR.out hy hlt
    injection e' with e'
    injection e' with e2 e3
    subst e2 e3
    have HX := Lib.hid hx
    have HY := Lib.hid hy
    obtain ⟨j, hj⟩ : ∃ j, j = k + 1 := ⟨_, rfl⟩
    have ej : (k : Int) + 1 = (j : Int) := by omega
    have ej2 : (j : Int) - 1 = (k : Int) := by omega
    rw [← hj] at y0
    rw [ej]
    have hk0 : (0 : Int) ≤ (k : Int) := by omega
    have hk1 : (k : Int) < (n : Int) := by omega
    have hj0 : (0 : Int) ≤ (j : Int) := by omega
    have hj1 : (j : Int) < (n : Int) := by omega
    have wk : IntKind.i64.wrap (k : Int) = (k : Int) := IntWalk.i64_in _ (by omega)
    have HJ := Lib.hid hj
    clear hx hy hj
    by_cases hxy : x < y
    · have hd : decide (y ≤ x) = false := decide_eq_false (by omega)
      have HK2 : Hid (RisK l (k + 1 + 1)) := Lib.hid (fun i a b h h1 h2 => by
        by_cases e : i = k
        · subst e
          rw [HX.out] at h1
          rw [HY.out] at h2
          obtain rfl := Option.some.inj h1
          obtain rfl := Option.some.inj h2
          exact hxy
        · exact HK.out i a b (by omega) h1 h2)
      go_wp2_with fail
      go_quiet (fail)
      have HQ2 : Hid (wr.drewN nq = wa.drewN (q + nq)) := Lib.hid (by rw [HQ.out]; exact drew_add _ _ _)
      obtain ⟨w2, hw2⟩ : ∃ w2, w2 = wr.drewN nq := ⟨_, rfl⟩
      rw [← hw2] at HQ2 ⊢
      clear hw2 x0 y0 e0 e1 hd
      go_wp2_with fail
      go_roundw
      case rel => exact ⟨k + 1, by omega, by have := HJ.out; rw [this]; first | done | go_num, HK2, q + nq, HQ2⟩
      case measure => have := HJ.out; simp [intOf] <;> omega
    · have hd : decide (y ≤ x) = true := decide_eq_true (by omega)
      have hf : F = 4 := by rw [HF3.out]; exact if_neg (by rw [risB_not HX.out HY.out hxy]; decide)
      subst hf
      go_wp2_with fail
      go_quiet (fail)
      have HB2 := Lib.hid (below_drewN HBR.out nq)
      go_wp2_with fail
      go_ret
      exact ⟨rfl, HB2.out⟩
set_option maxHeartbeats 8000000 in
set_option maxRecDepth 100000 in
theorem lfault_any (v : Value) (s : Ls) (w : World) (hv : LsV w v s) : Calls Try.prog 34 #[v] w fun e w' => e = .returned (.int .i64 (lsF s)) ∧ Below w.heap.size w w' := by
  obtain ⟨t, rfl, hs, -, hk1, hk2, hn9⟩ := hv
  obtain ⟨K, l⟩ := s
  have hs : Sl w 1 t l.length (l.map (Value.int .u64)) := hs
  have hk1 : -9223372036854775808 ≤ K := hk1
  have hk2 : K < 9223372036854775808 := hk2
  have hn9 : l.length ≤ 140737488355328 := hn9
  show Calls Try.prog 34 #[.agg #[.int .i64 K, t]] w _
  obtain ⟨n, hn⟩ : ∃ n, l.length = n := ⟨_, rfl⟩
  obtain ⟨F, hF⟩ : ∃ F, lsF ⟨K, l⟩ = F := ⟨_, rfl⟩
  rw [hF]
  have hF2 : F = if K < 2 ∨ 64 < K ∨ K < (n : Int) then 4 else if risB l = true then 0 else 4 := by rw [← hF, ← hn]; rfl
  have HF := Lib.hid hF2
  rw [hn] at hs hn9
  obtain ⟨ao, c, rfl, hnc, hc, -⟩ := hs.shape
  have HN := Lib.hid hn
  obtain ⟨wa, hwa, hbox, hba, hsa⟩ := box_ls w (.int .i64 K) (.slice ao n c)
  have HS := Lib.hid (hs.below hba)
  have HWA := Lib.hid hwa
  have HBA := Lib.hid hba
  obtain ⟨⟨d0, d1⟩, -⟩ := bx2 hbox
  obtain ⟨bx, hbx⟩ : ∃ bx, w.heap.size = bx := ⟨_, rfl⟩
  rw [hbx] at d0 d1
  have HBE := Lib.hid hbx
  clear hs hn hF hF2 hwa hba hsa hbox hbx
  go_enter Try.func34, Try.ntmps34
  go_upto_region 1 with (fail)
  rw [HBE.out, ← HWA.out]
  by_cases g1 : K < 2
  · have hf : F = 4 := by rw [HF.out]; exact if_pos (Or.inl g1)
    subst hf
    go_wp2_with fail
    go_ret
    exact ⟨rfl, HBA.out⟩
  by_cases g2 : 64 < K
  · have hf : F = 4 := by rw [HF.out]; exact if_pos (Or.inr (Or.inl g2))
    subst hf
    go_wp2_with fail
    go_ret
    exact ⟨rfl, HBA.out⟩
  by_cases g3 : K < (n : Int)
  · have hf : F = 4 := by rw [HF.out]; exact if_pos (Or.inr (Or.inr g3))
    subst hf
    go_wp2_with fail
    go_ret
    exact ⟨rfl, HBA.out⟩
  have HF3 : Hid (F = if risB l = true then 0 else 4) := Lib.hid (by rw [HF.out]; exact if_neg (by omega))
  have hn64 : n ≤ 64 := by omega
  go_wp2_with fail
  go_loopw [23] (fun i wr => ∃ k : Nat, k ≤ n ∧ i = .int .i64 k ∧ Hid (RisK l k) ∧ ∃ q, Hid (wr = wa.drewN q)) (fun i _ => n - (intOf i).toNat)
  case atStart => exact ⟨0, by omega, rfl, Lib.hid (fun i x y h => by omega), 0, Lib.hid rfl⟩
  case round =>
    obtain ⟨k, hk, rfl, HK, q, HQ⟩ := hrel
    have HBR : Hid (Below w.heap.size w wr) := Lib.hid (by rw [HQ.out]; exact below_drewN HBA.out _)
    have e0 : wr.cell? ⟨bx, 0, none⟩ = some (.int .i64 K) := by rw [HQ.out]; exact d0
    have e1 : wr.cell? ⟨bx, 1, none⟩ = some (.slice ao n c) := by rw [HQ.out]; exact d1
    by_cases hlt : k < n
    case neg =>
      have hr : risB l = true := risB_all (fun i x y h1 h2 => HK.out i x y (by have := (List.getElem?_eq_some_iff.1 h2).1; have := HN.out; omega) h1 h2)
      have hf : F = 0 := by rw [HF3.out]; exact if_pos hr
      subst hf
      clear hr
      go_wp2_with fail
      go_ret
      exact ⟨rfl, HBR.out⟩
    rcases Nat.eq_zero_or_pos k with h0 | h0
    · have hd : decide (0 < k) = false := decide_eq_false (by omega)
      have hd2 : decide ((0 : Int) < (k : Int)) = false := decide_eq_false (by omega)
      have HK2 : Hid (RisK l (k + 1)) := Lib.hid (fun i a b h h1 h2 => by omega)
      clear h0
      go_wp2_with fail
      go_quiet (fail)
      have HQ2 : Hid (wr.drewN nq = wa.drewN (q + nq)) := Lib.hid (by rw [HQ.out]; exact drew_add _ _ _)
      obtain ⟨w2, hw2⟩ : ∃ w2, w2 = wr.drewN nq := ⟨_, rfl⟩
      rw [← hw2] at HQ2 ⊢
      clear hw2 e0 e1 hd hd2
      go_wp2_with fail
      go_roundw
      case rel => exact ⟨k + 1, by omega, by go_num, HK2, q + nq, HQ2⟩
      case measure => simp [intOf]; omega
    have hd : decide (0 < k) = true := decide_eq_true h0
    have hd2 : decide ((0 : Int) < (k : Int)) = true := decide_eq_true (by omega)
    obtain ⟨j, hj⟩ : ∃ j, k = j + 1 := ⟨k - 1, by omega⟩
    obtain ⟨x, hx⟩ : ∃ x, l[j]? = some x := ⟨_, List.getElem?_eq_getElem (by rw [HN.out]; omega)⟩
    obtain ⟨y, hy⟩ : ∃ y, l[k]? = some y := ⟨_, List.getElem?_eq_getElem (by rw [HN.out]; omega)⟩
    have HSR : Hid (Sl wr 1 (.slice ao n c) n (l.map (Value.int .u64))) := Lib.hid (by rw [HQ.out]; exact HS.out)
    obtain ⟨b, off, rfl, x0⟩ := sl_elU HSR.out hx (by omega)
    obtain ⟨b', off', e', y0⟩ := sl_elU HSR.out hy hlt
    injection e' with e'
    injection e' with e2 e3
    subst e2 e3
    have HX := Lib.hid hx
    have HY := Lib.hid hy
    have ej2 : (k : Int) - 1 = (j : Int) := by omega
    have hk0 : (0 : Int) ≤ (k : Int) := by omega
    have hk1 : (k : Int) < (n : Int) := by omega
    have hj0 : (0 : Int) ≤ (j : Int) := by omega
    have hj1 : (j : Int) < (n : Int) := by omega
    have wk : IntKind.i64.wrap (j : Int) = (j : Int) := IntWalk.i64_in _ (by omega)
    have HJ := Lib.hid hj
    clear hx hy hj
    by_cases hxy : x < y
    · have hdx : decide (y ≤ x) = false := decide_eq_false (by omega)
      have HK2 : Hid (RisK l (k + 1)) := Lib.hid (fun i a b h h1 h2 => by
        have hjj := HJ.out
        by_cases e : i = j
        · subst e
          rw [HX.out] at h1
          rw [← hjj, HY.out] at h2
          obtain rfl := Option.some.inj h1
          obtain rfl := Option.some.inj h2
          exact hxy
        · exact HK.out i a b (by omega) h1 h2)
      go_wp2_with fail
      go_quiet (fail)
      have HQ2 : Hid (wr.drewN nq = wa.drewN (q + nq)) := Lib.hid (by rw [HQ.out]; exact drew_add _ _ _)
      obtain ⟨w2, hw2⟩ : ∃ w2, w2 = wr.drewN nq := ⟨_, rfl⟩
      rw [← hw2] at HQ2 ⊢
      clear hw2 x0 y0 e0 e1 hd hd2 hdx
      go_wp2_with fail
      go_roundw
      case rel => exact ⟨k + 1, by omega, by go_num, HK2, q + nq, HQ2⟩
      case measure => simp [intOf]; omega
    · have hdx : decide (y ≤ x) = true := decide_eq_true (by omega)
      have hf : F = 4 := by rw [HF3.out]; exact if_neg (by rw [risB_not HX.out (by rw [← HJ.out]; exact HY.out) hxy]; decide)
      subst hf
      go_wp2_with fail
      go_quiet (fail)
      have HB2 := Lib.hid (below_drewN HBR.out nq)
      go_wp2_with fail
      go_ret
      exact ⟨rfl, HB2.out⟩
def EmP (k : Int) (w : World) (e : Ending) (w' : World) : Prop := e = .returned (.tuple #[.agg #[.int .i64 (if k < 2 ∨ 64 < k then 0 else k), .slice none 0 0], .int .i64 (if k < 2 ∨ 64 < k then 1 else 0)]) ∧ Below w.heap.size w w'
set_option maxHeartbeats 4000000 in
set_option maxRecDepth 100000 in
theorem lempty_any (k : Int) (w : World) : Calls Try.prog 29 #[.int .i64 k] w (EmP k w) := by
  have c0 := fun x : Value => cell_new w 46 [x, .slice none 0 0] 0 x rfl
  have c1 := fun x : Value => cell_new w 46 [x, .slice none 0 0] 1 (.slice none 0 0) rfl
  have hB : ∀ o : Obj, Below w.heap.size w (w.alloc o) := fun o => (Below.refl _ w).alloc (Nat.le_refl _) _
  have HB := Lib.hid hB
  have HC := Lib.hid (fun x : Value => And.intro (c0 x) (c1 x))
  clear hB c0 c1
  by_cases g1 : k < 2
  · go_enter Try.func29, Try.ntmps29
    go_wp2_with fail
    obtain ⟨c0, c1⟩ := HC.out (.int .i64 0)
    refine bodyPost_ret (v := .tuple #[.agg #[.int .i64 0, .slice none 0 0], .int .i64 1]) (by simp at c0 c1; simp [results, Try.results29, go_sem, c0, c1]) rfl ?_
    exact ⟨by rw [if_pos (Or.inl g1), if_pos (Or.inl g1)], HB.out _⟩
  by_cases g2 : 64 < k
  · go_enter Try.func29, Try.ntmps29
    go_wp2_with fail
    obtain ⟨c0, c1⟩ := HC.out (.int .i64 0)
    refine bodyPost_ret (v := .tuple #[.agg #[.int .i64 0, .slice none 0 0], .int .i64 1]) (by simp at c0 c1; simp [results, Try.results29, go_sem, c0, c1]) rfl ?_
    exact ⟨by rw [if_pos (Or.inr g2), if_pos (Or.inr g2)], HB.out _⟩
  · go_enter Try.func29, Try.ntmps29
    go_wp2_with fail
    obtain ⟨c0, c1⟩ := HC.out (.int .i64 k)
    refine bodyPost_ret (v := .tuple #[.agg #[.int .i64 k, .slice none 0 0], .int .i64 0]) (by simp at c0 c1; simp [results, Try.results29, go_sem, c0, c1]) rfl ?_
    exact ⟨by rw [if_neg (by omega), if_neg (by omega)], HB.out _⟩
end Go.Proofs.Ytlfhcjhbnakamaa.Lst
/-
  Sieves: the walk of SameLeast.
-/
namespace Go.Proofs.Ytlfhcjhbnakamaa.Lst
open Go.RowKit Go.Gh Go.Proofs.Ytlfhcjhbnakamaa.Qs
set_option linter.unusedVariables false
set_option linter.unusedSimpArgs false
def sameLs (s t : Ls) : Bool := decide (s.k = t.k ∧ s.h = t.h)
theorem same_len {a b : List Int} {n : Nat} (ha : a.length = n) (hb : b.length = n) (h : ∀ i, i < n → a[i]? = b[i]?) : a = b := by
  refine List.ext_getElem? fun i => ?_
  by_cases hi : i < n
  · exact h i hi
  · rw [List.getElem?_eq_none (by omega), List.getElem?_eq_none (by omega)]
set_option maxHeartbeats 8000000 in
set_option maxRecDepth 100000 in
theorem lsame_any (v u : Value) (s t : Ls) (w : World) (hv : LsV w v s) (hu : LsV w u t) : Calls Try.prog 33 #[v, u] w fun e w' => e = .returned (.bool (sameLs s t)) ∧ Below w.heap.size w w' := by
  obtain ⟨t1, rfl, hs, -, hk1, hk2, hn9⟩ := hv
  obtain ⟨t2, rfl, hs', -, hk1', hk2', hn9'⟩ := hu
  obtain ⟨K, l⟩ := s
  obtain ⟨K', l'⟩ := t
  have hs : Sl w 1 t1 l.length (l.map (Value.int .u64)) := hs
  have hs' : Sl w 1 t2 l'.length (l'.map (Value.int .u64)) := hs'
  have hn9 : l.length ≤ 140737488355328 := hn9
  have hn9' : l'.length ≤ 140737488355328 := hn9'
  show Calls Try.prog 33 #[.agg #[.int .i64 K, t1], .agg #[.int .i64 K', t2]] w _
  obtain ⟨n, hn⟩ : ∃ n, l.length = n := ⟨_, rfl⟩
  obtain ⟨m, hm⟩ : ∃ n, l'.length = n := ⟨_, rfl⟩
  obtain ⟨F, hF⟩ : ∃ F, sameLs ⟨K, l⟩ ⟨K', l'⟩ = F := ⟨_, rfl⟩
  rw [hF]
  have HF : Hid (F = decide (K = K' ∧ l = l')) := Lib.hid (by rw [← hF]; rfl)
  rw [hn] at hs hn9
  rw [hm] at hs' hn9'
  obtain ⟨ao, c, rfl, hnc, hc, -⟩ := hs.shape
  obtain ⟨ao', c', rfl, hnc', hc', -⟩ := hs'.shape
  have HN := Lib.hid hn
  have HM := Lib.hid hm
  obtain ⟨wa, hwa, hbox, hba, hsa⟩ := box_ls w (.int .i64 K) (.slice ao n c)
  obtain ⟨wb, hwb, hbox', hbb, hsb⟩ := box_ls wa (.int .i64 K') (.slice ao' m c')
  have HS := Lib.hid ((hs.below hba).below hbb)
  have HS' := Lib.hid ((hs'.below hba).below hbb)
  have HWA := Lib.hid hwa
  have HWB := Lib.hid hwb
  have HBA := Lib.hid (hba.trans (hbb.mono hba.size))
  obtain ⟨⟨d0, d1⟩, -⟩ := bx2 ((hbb.block _ hsa).trans hbox)
  obtain ⟨⟨d0', d1'⟩, -⟩ := bx2 hbox'
  have hsz : wa.heap.size = w.heap.size + 1 := by rw [hwa]; simp
  obtain ⟨bx, hbx⟩ : ∃ bx, w.heap.size = bx := ⟨_, rfl⟩
  obtain ⟨by', hby⟩ : ∃ bx, wa.heap.size = bx := ⟨_, rfl⟩
  rw [hbx] at d0 d1
  rw [hby] at d0' d1'
  have HBE := Lib.hid hbx
  have HBY := Lib.hid hby
  have HSZ := Lib.hid hsz
  clear hs hs' hn hm hF hwa hba hsa hbox hbx hwb hbb hsb hbox' hby hsz
  go_enter Try.func33, Try.ntmps33
  go_upto_region 1 with (fail)
  rw [← HWA.out, ← HSZ.out, HBY.out, HBE.out, ← HWB.out]
  by_cases g1 : K = K'
  case neg =>
    have hf : F = false := by rw [HF.out]; exact decide_eq_false (fun h => g1 h.1)
    have t1 : (K != K') = true := by rw [bne_iff_ne]; exact g1
    subst hf
    clear g1
    go_wp2_with fail
    go_ret
    exact ⟨rfl, HBA.out⟩
  by_cases g2 : n = m
  case neg =>
    have hf : F = false := by rw [HF.out]; exact decide_eq_false (fun h => g2 (by rw [← HN.out, ← HM.out, h.2]))
    have t1 : (K != K') = false := by simp; exact g1
    have t2 : ((n : Int) != (m : Int)) = true := by simp; omega
    have t3 : (n != m) = true := by simp; omega
    subst hf
    clear g1 g2
    go_wp2_with fail
    go_ret
    exact ⟨rfl, HBA.out⟩
  subst g1
  subst g2
  have HF2 : Hid (F = decide (l = l')) := Lib.hid (by rw [HF.out]; simp)
  go_wp2_with fail
  go_loopw [23] (fun i wr => ∃ k : Nat, k ≤ n ∧ i = .int .i64 k ∧ Hid (∀ i, i < k → l[i]? = l'[i]?) ∧ ∃ q, Hid (wr = wb.drewN q)) (fun i _ => n - (intOf i).toNat)
  case atStart => exact ⟨0, Nat.zero_le _, rfl, Lib.hid (fun i h => by omega), 0, Lib.hid rfl⟩
  case round =>
    obtain ⟨k, hk, rfl, HK, q, HQ⟩ := hrel
    have HBR : Hid (Below w.heap.size w wr) := Lib.hid (by rw [HQ.out]; exact below_drewN HBA.out _)
    have e1 : wr.cell? ⟨bx, 1, none⟩ = some (.slice ao n c) := by rw [HQ.out]; exact d1
    have e1' : wr.cell? ⟨by', 1, none⟩ = some (.slice ao' n c') := by rw [HQ.out]; exact d1'
    by_cases hlt : k < n
    case neg =>
      obtain rfl : k = n := by omega
      have hf : F = true := by rw [HF2.out]; exact decide_eq_true (same_len HN.out HM.out HK.out)
      subst hf
      go_wp2_with fail
      go_ret
      exact ⟨rfl, HBR.out⟩
    obtain ⟨x, hx⟩ : ∃ x, l[k]? = some x := ⟨_, List.getElem?_eq_getElem (by rw [HN.out]; exact hlt)⟩
    obtain ⟨y, hy⟩ : ∃ y, l'[k]? = some y := ⟨_, List.getElem?_eq_getElem (by rw [HM.out]; exact hlt)⟩
    have HSR : Hid (Sl wr 1 (.slice ao n c) n (l.map (Value.int .u64))) := Lib.hid (by rw [HQ.out]; exact HS.out)
    have HSR' : Hid (Sl wr 1 (.slice ao' n c') n (l'.map (Value.int .u64))) := Lib.hid (by rw [HQ.out]; exact HS'.out)
    obtain ⟨b, off, rfl, x0⟩ := sl_elU HSR.out hx hlt
    obtain ⟨b', off', rfl, y0⟩ := sl_elU HSR'.out hy hlt
    have HX := Lib.hid hx
    have HY := Lib.hid hy
    have hk0 : (0 : Int) ≤ (k : Int) := by omega
    have hk1 : (k : Int) < (n : Int) := by omega
    clear hx hy
    by_cases hxy : x = y
    · have hd : (x != y) = false := by simp; exact hxy
      have HK2 : Hid (∀ i, i < k + 1 → l[i]? = l'[i]?) := Lib.hid (fun i hi => by
        by_cases e : i = k
        · rw [e, HX.out, HY.out, hxy]
        · exact HK.out i (by omega))
      clear hxy
      go_wp2_with fail
      go_quiet (fail)
      have HQ2 : Hid (wr.drewN nq = wb.drewN (q + nq)) := Lib.hid (by rw [HQ.out]; exact drew_add _ _ _)
      obtain ⟨w2, hw2⟩ : ∃ w2, w2 = wr.drewN nq := ⟨_, rfl⟩
      rw [← hw2] at HQ2 ⊢
      clear hw2 x0 y0 e1 e1' hd
      go_wp2_with fail
      go_roundw
      case rel => exact ⟨k + 1, by omega, by go_num, HK2, q + nq, HQ2⟩
      case measure => simp [intOf]; omega
    · have hd : (x != y) = true := by rw [bne_iff_ne]; exact hxy
      have hf : F = false := by
        rw [HF2.out]
        refine decide_eq_false (fun h => hxy ?_)
        have h1 := HX.out
        rw [h, HY.out] at h1
        exact (Option.some.inj h1).symm
      subst hf
      clear hxy
      go_wp2_with fail
      go_quiet (fail)
      have HB2 := Lib.hid (below_drewN HBR.out nq)
      go_wp2_with fail
      go_ret
      exact ⟨rfl, HB2.out⟩
end Go.Proofs.Ytlfhcjhbnakamaa.Lst
