/-
  clear of the last elements of a row of one's own; such a row seen shorter.
-/
import Derived.Test.YtjmplhkdohlbcaaGreatDoorEz1
import Derived.Test.YtjmplhkdohlbcaaGreatDoorEz3
import Derived.Test.YtjmplhkdohlbcaaGreatDoorEz4
import Derived.Test.YtjmplhkdohlbcaaGreatDoorEz6
import Derived.Test.YtjmplhkdohlbcaaGreatDoorEz7
import Derived.Lib.SmallJoins
import Derived.Lib.SliceRun
import Derived.IntWalk
import Derived.Lib.IndexMore
namespace Go.Gh.Clr
open Go.RowKit Go.Gh
set_option linter.unusedVariables false
set_option linter.unusedSimpArgs false
/-- A row of one's own, seen shorter. -/
theorem own_shorter {w : World} {B : Nat} {e : TypeId} {k g n cap m : Nat} {xs : List Value} (h : w.ownsRow B e k (.slice (some ⟨g, 0, none⟩) n cap) n xs) (hm : m ≤ n) : w.ownsRow B e k (.slice (some ⟨g, 0, none⟩) m cap) m (xs.take (m * k)) := by
  obtain ⟨hl, h2⟩ := h
  have hmk : m * k ≤ n * k := Nat.mul_le_mul_right _ hm
  rcases h2 with ⟨e1, _⟩ | ⟨g', cap', cur, e1, hb, hg, hnc, hcm, hsz, htk⟩
  · simp at e1
  · simp at e1
    obtain ⟨rfl, rfl⟩ := e1
    exact ⟨by rw [List.length_take]; omega, Or.inr ⟨g, cap, cur, rfl, hb, hg, by omega, hcm, hsz, by rw [← htk, List.take_take, Nat.min_eq_left hmk]⟩⟩
/-- clear of the last elements of a row of one's own. -/
theorem clear_own {P : Program} {w : World} {t e ty : TypeId} {k g n cap i m c B : Nat} {z : Value} {xs zs : List Value} (ht : P.underlying t = some (.slice e)) (hv : ∀ w, (zeroValue e).run P w = .ok z w) (hz : (Builtin.zeroCells z.cells (m + 1)).toList = zs)
    (h : w.ownsRow B e k (.slice (some ⟨g, 0, none⟩) n cap) n xs) (hzl : zs.length = (m + 1) * k) (hfit : i * k + (m + 1) * k ≤ n * k) (h1 : ∀ u ∈ zs, u.oneCell' = true) :
    (Builtin.clear_ #[t] ty #[.slice (some ⟨g, i * k, none⟩) (m + 1) c]).run P w = .ok (.tuple #[]) (setCells w g (i * k) zs) ∧ (setCells w g (i * k) zs).ownsRow B e k (.slice (some ⟨g, 0, none⟩) n cap) n (setFrom xs (i * k) zs) := by
  refine ⟨?_, own_stores zs w (i * k) xs h⟩
  have hl : xs.length = n * k := h.1
  have hst := run_storeCells_cells (P := P) g (i * k) zs 0 w (fun j hj => by
    have hx : i * k + j < xs.length := by omega
    have hc := h.cells (g := g) rfl (i * k + j) _ (List.getElem?_eq_getElem hx)
    rw [addr_add, Nat.zero_add] at hc
    rw [Nat.add_zero, hc]
    rfl) (fun j hj => h.frozenAt _) h1
  simp only [Nat.add_zero] at hst
  simp [Builtin.clear_, run_underlying ht, hv, hz, hst, setCells_eq]
theorem setFrom_take : ∀ (us xs : List Value) (k o : Nat), o ≤ k → (setFrom xs k us).take o = xs.take o
  | [], xs, k, o, h => rfl
  | u :: us, xs, k, o, h => by
    show (setFrom (xs.set k u) (k + 1) us).take o = _
    rw [setFrom_take us _ _ _ (by omega), List.take_set, List.set_eq_of_length_le (by rw [List.length_take]; omega)]
/-- The first place where p holds. -/
def IdG {α : Type} (p : α → Bool) (l : List α) (k : Int) : Prop := (k = -1 ∧ ∀ z ∈ l, p z = false) ∨ ∃ (j : Nat) (x : α), k = (j : Int) ∧ l[j]? = some x ∧ p x = true ∧ ∀ y ∈ l.take j, p y = false
theorem idG_step {α : Type} {p : α → Bool} {l : List α} {k : Nat} {x : α} (hx : l[k]? = some x) (hp : p x = false) (h : ∀ y ∈ l.take k, p y = false) : ∀ y ∈ l.take (k + 1), p y = false := fun y hy => by
  rw [List.take_add_one, hx] at hy
  rcases List.mem_append.1 hy with hy | hy
  · exact h y hy
  · obtain rfl : y = x := by simpa using hy
    exact hp
/-- What stands while some are struck. -/
structure DeG {α : Type} (p : α → Bool) (l R : List α) (kk q : Nat) : Prop where
  kept : R.take kk = (l.take q).filter (fun z => !p z)
  rest : ∀ i, q ≤ i → R[i]? = l[i]?
  len : R.length = l.length
  le : kk ≤ q
theorem DeG.struck {α : Type} {p : α → Bool} {l R : List α} {kk q : Nat} {x : α} (h : DeG p l R kk q) (hx : l[q]? = some x) (hp : p x = true) : DeG p l R kk (q + 1) :=
  ⟨by rw [h.kept, List.take_add_one, hx, List.filter_append]; simp [hp], fun i hi => h.rest i (by omega), h.len, by have := h.le; omega⟩
theorem DeG.stays {α : Type} {p : α → Bool} {l R : List α} {kk q : Nat} {x : α} (h : DeG p l R kk q) (hx : l[q]? = some x) (hp : p x = false) : DeG p l (R.set kk x) (kk + 1) (q + 1) := by
  have hq := (List.getElem?_eq_some_iff.1 hx).1
  have hkl : kk < R.length := by have := h.le; have := h.len; omega
  refine ⟨?_, fun i hi => ?_, by rw [List.length_set]; exact h.len, by have := h.le; omega⟩
  · rw [List.take_add_one, List.getElem?_set_self hkl, List.take_set, List.set_eq_of_length_le (by rw [List.length_take]; omega), h.kept, List.take_add_one, hx, List.filter_append]
    simp [hp]
  · rw [List.getElem?_set_ne (by have := h.le; omega)]
    exact h.rest i (by omega)
theorem DeG.start {α : Type} {p : α → Bool} {l : List α} {j : Nat} {x : α} (hx : l[j]? = some x) (hp : p x = true) (hb : ∀ y ∈ l.take j, p y = false) : DeG p l l j (j + 1) := by
  refine ⟨?_, fun i _ => rfl, rfl, by omega⟩
  rw [List.take_add_one, hx, List.filter_append, List.filter_eq_self.2 (fun y hy => by rw [hb y hy]; rfl)]
  simp [hp]
theorem DeG.fin {α : Type} {p : α → Bool} {l R : List α} {kk : Nat} (h : DeG p l R kk l.length) : R.take kk = l.filter (fun z => !p z) ∧ (l.filter (fun z => !p z)).length = kk := by
  have h1 := h.kept
  rw [List.take_of_length_le (l := l) (Nat.le_refl _)] at h1
  refine ⟨h1, ?_⟩
  rw [← h1, List.length_take, h.len]
  have := h.le
  omega
end Go.Gh.Clr
/-
  Rows of texts: the walks of slices.Index, slices.Contains.
-/
namespace Go.Proofs.YtjmplhkdohlbcaaGreatDoor.Evl
open Go.RowKit Go.Gh Go.Gh.Clr Go.WideShapes Go.Proofs.YtjmplhkdohlbcaaGreatDoor.Lab Go.Proofs.YtjmplhkdohlbcaaGreatDoor.Exp
set_option linter.unusedVariables false
set_option linter.unusedSimpArgs false
/-- What Index answers. -/
def IxP (l : List By) (x : By) (w : World) (e : Ending) (w' : World) : Prop := ∃ i : Int, e = .returned (.int .i64 i) ∧ ((0 ≤ i ∧ x ∈ l) ∨ (i = -1 ∧ x ∉ l)) ∧ w = w'
set_option maxRecDepth 100000 in
theorem indexT_any (v : Value) (l : List By) (x : By) (w : World) (hs : Sp StrR 1 w v l) : Calls Tryz.prog 78 #[v, .string (mkS x)] w (IxP l x w) := by
  obtain ⟨n, hm⟩ : ∃ n, l.length = n := ⟨_, rfl⟩
  obtain ⟨ao, c, rfl, hnc, hc⟩ := hs.shapeN hm
  have HS := Lib.hid hs
  have HM := Lib.hid hm
  clear hs hm
  go_enter Tryz.func78, Tryz.ntmps78
  go_wp2_with fail
  go_loopw [5, 8] (fun _ i wr => ∃ k : Nat, k ≤ n ∧ i = .int .i64 k ∧ Hid (x ∉ l.take k) ∧ w = wr) (fun _ i _ => n - (intOf i).toNat)
  case atStart => exact ⟨0, by omega, rfl, Lib.hid (by simp), rfl⟩
  case round =>
    obtain ⟨k, hk, rfl, HX, rfl⟩ := hrel
    by_cases hlt : k < n
    · obtain ⟨z, hz⟩ : ∃ z, l[k]? = some z := ⟨_, List.getElem?_eq_getElem (by rw [HM.out]; exact hlt)⟩
      obtain ⟨b, off, cs, rfl, ⟨rfl, -⟩, -, hck⟩ := HS.out.get hz
      have hc1 := hck 0 _ rfl
      rw [Nat.mul_one, Nat.add_zero] at hc1
      by_cases hxz : x = z
      · have HF : Hid (IxP l x w (.returned (.int .i64 k)) w) := Lib.hid ⟨_, rfl, Or.inl ⟨by omega, by rw [hxz]; exact List.mem_of_getElem? hz⟩, rfl⟩
        have t1 : ((mkS x).toList == (mkS z).toList) = true := by rw [hxz]; simp
        clear hz hxz hck
        go_wp2_with fail
        go_ret
        exact HF.out
      · have HX2 : Hid (x ∉ l.take (k + 1)) := Lib.hid (by
          obtain ⟨h1, h2⟩ := List.getElem?_eq_some_iff.1 hz
          rw [List.take_succ_eq_append_getElem h1, h2, List.mem_append]
          rintro (h | h)
          · exact HX.out h
          · exact hxz (by simpa using h))
        have t1 : ((mkS x).toList == (mkS z).toList) = false := by rw [mkS_list, mkS_list]; exact beq_eq_false_iff_ne.2 hxz
        clear hz hxz hck
        go_wp2_with fail
        go_roundw
        case rel => exact ⟨k + 1, by omega, by go_num, HX2, by first | rfl | trivial⟩
        case measure => simp [intOf]; omega
    · have hkn : k = n := by omega
      have HF : Hid (IxP l x w (.returned (.int .i64 (-1))) w) := Lib.hid ⟨_, rfl, Or.inr ⟨rfl, by
        have := HX.out
        rwa [List.take_of_length_le (by rw [HM.out, hkn]; exact Nat.le_refl _)] at this⟩, rfl⟩
      subst hkn
      go_wp2_with fail
      go_ret
      exact HF.out
set_option maxRecDepth 100000 in
theorem containsT_any (v : Value) (l : List By) (x : By) (w : World) (hs : Sp StrR 1 w v l) : Calls Tryz.prog 56 #[v, .string (mkS x)] w fun e w' => e = .returned (.bool (decide (x ∈ l))) ∧ w = w' := by
  obtain ⟨ao, c, rfl, -, -⟩ := hs.shape
  obtain ⟨n, hm⟩ : ∃ n, l.length = n := ⟨_, rfl⟩
  have HI := Lib.hid (indexT_any _ l x w hs)
  rw [hm] at HI ⊢
  obtain ⟨D, hD⟩ : ∃ D, decide (x ∈ l) = D := ⟨_, rfl⟩
  rw [hD]
  have HD := Lib.hid hD
  clear hs hm hD
  go_enter Tryz.func56, Tryz.ntmps56
  go_wp2_with fail
  refine HI.out.mono ?_
  rintro e w1 ⟨i, rfl, h, rfl⟩
  rcases h with ⟨h0, hx⟩ | ⟨rfl, hx⟩
  · have hd : D = true := by rw [← HD.out]; exact decide_eq_true hx
    subst hd
    have h2 : decide (i ≥ 0) = true := decide_eq_true h0
    clear hx
    go_wp2_with fail
    go_ret
    exact ⟨by simp, rfl⟩
  · have hd : D = false := by rw [← HD.out]; exact decide_eq_false hx
    subst hd
    clear hx
    go_wp2_with fail
    go_ret
    exact ⟨rfl, rfl⟩
end Go.Proofs.YtjmplhkdohlbcaaGreatDoor.Evl
/-
  Labels that fit matches: as plain functions; the walks of Value and ValueIn.
-/
namespace Go.Gh
set_option linter.unusedVariables false
set_option linter.unusedSimpArgs false
/-- The value of a name: the first one's. -/
def valF (L : List Lb) (n : By) : By := match L.find? (fun x => decide (x.nm = n)) with | some x => x.vl | none => []
def valStep (n : By) (v : By) (x : Lb) : By := if x.nm = n then x.vl else v
/-- .. the last one's. -/
def valL (L : List Lb) (n : By) : By := L.foldl (valStep n) []
theorem valF_hit {L : List Lb} {n : By} {k : Nat} {x : Lb} (h : ∀ y ∈ L.take k, y.nm ≠ n) (hx : L[k]? = some x) (hn : x.nm = n) : valF L n = x.vl := by
  obtain ⟨h1, h2⟩ := List.getElem?_eq_some_iff.1 hx
  have e : L = L.take k ++ x :: L.drop (k + 1) := by
    rw [← h2, ← List.drop_eq_getElem_cons h1, List.take_append_drop]
  unfold valF
  rw [e, List.find?_append]
  have h0 : (L.take k).find? (fun x => decide (x.nm = n)) = none := by
    rw [List.find?_eq_none]
    intro y hy
    simpa using h y hy
  rw [h0, List.find?_cons]
  simp [hn]
theorem valF_none {L : List Lb} {n : By} (h : ∀ y ∈ L, y.nm ≠ n) : valF L n = [] := by
  unfold valF
  have h0 : L.find? (fun x => decide (x.nm = n)) = none := by
    rw [List.find?_eq_none]
    intro y hy
    simpa using h y hy
  rw [h0]
theorem valL_next {L : List Lb} {n : By} {k : Nat} {x : Lb} (hx : L[k]? = some x) : valL (L.take (k + 1)) n = if x.nm = n then x.vl else valL (L.take k) n := by
  unfold valL
  rw [List.take_add_one, hx, List.foldl_append]
  rfl
theorem goL_gt : ∀ (l : List Lb) (q : By), goL (some q) l = 0 → ∀ x ∈ l, q < x.nm
  | [], q, _, x, hx => by simp at hx
  | y :: r, q, h, x, hx => by
    rw [goL_cons] at h
    split at h
    · exact absurd h (by decide)
    split at h
    · exact absurd h (by decide)
    rename_i h2
    split at h
    · exact absurd h (by decide)
    have hq : q < y.nm := by
      unfold badO at h2
      simpa using h2
    rcases List.mem_cons.1 hx with rfl | hx
    · exact hq
    · exact List.lt_trans hq (goL_gt r y.nm h x hx)
theorem fold_none {n : By} : ∀ (l : List Lb) (v : By), (∀ x ∈ l, x.nm ≠ n) → l.foldl (valStep n) v = v
  | [], v, _ => rfl
  | x :: l, v, h => by
    rw [List.foldl_cons]
    have : valStep n v x = v := by unfold valStep; rw [if_neg (h x (by simp))]
    rw [this]
    exact fold_none l v (fun y hy => h y (by simp [hy]))
theorem fold_find {n : By} : ∀ (l : List Lb) (p : Option By), goL p l = 0 → l.foldl (valStep n) [] = match l.find? (fun x => decide (x.nm = n)) with | some x => x.vl | none => []
  | [], _, _ => rfl
  | x :: l, p, h => by
    rw [goL_cons] at h
    split at h
    · exact absurd h (by decide)
    split at h
    · exact absurd h (by decide)
    split at h
    · exact absurd h (by decide)
    rw [List.foldl_cons, List.find?_cons]
    by_cases hx : x.nm = n
    · have e : valStep n [] x = x.vl := by unfold valStep; rw [if_pos hx]
      rw [e, decide_eq_true hx]
      exact fold_none l x.vl (fun y hy e => by
        have := goL_gt l x.nm h y hy
        rw [hx, e] at this
        exact absurd this (List.lt_irrefl _))
    · have e : valStep n [] x = [] := by unfold valStep; rw [if_neg hx]
      rw [e, decide_eq_false hx]
      exact fold_find l (some x.nm) h
theorem val_same {L : List Lb} (h : labelF L = 0) (n : By) : valL L n = valF L n := by
  unfold labelF at h
  split at h
  · exact absurd h (by decide)
  · exact fold_find L none h
/-- Does a match fit? -/
def fitB (L : List Lb) (m : Mt) : Bool :=
  if m.kd = 1 then decide (valF L m.nm = m.vl) else if m.kd = 2 then !decide (valF L m.nm = m.vl) else if m.kd = 3 then m.vl.isPrefixOf (valF L m.nm) else Lib.contains (valF L m.nm) m.vl
def fitsB (L : List Lb) (M : List Mt) : Bool := M.all (fitB L)
theorem fits_yes {L : List Lb} {M : List Mt} {k : Nat} {x : Mt} (h : (M.take k).all (fitB L) = true) (hx : M[k]? = some x) (hf : fitB L x = true) : (M.take (k + 1)).all (fitB L) = true := by
  rw [List.take_add_one, hx, List.all_append, h]
  simp [hf]
theorem fits_no {L : List Lb} {M : List Mt} {k : Nat} {x : Mt} (hx : M[k]? = some x) (hf : fitB L x = false) : fitsB L M = false := by
  unfold fitsB
  rw [List.all_eq_false]
  exact ⟨x, List.mem_of_getElem? hx, by rw [hf]; simp⟩
/-- Is there one among the first k places? -/
theorem contains_upto (v s : By) : Lib.contains v s = (List.range (v.length + 1)).any fun i => s.isPrefixOf (v.drop i) := by
  unfold Lib.contains
  rw [Bool.eq_iff_iff, decide_eq_true_eq, List.any_eq_true]
  rcases Lib.index_spec v s with ⟨h1, h2⟩ | ⟨i, h1, h2, h3, _⟩
  · constructor
    · intro h; omega
    · rintro ⟨j, hj, hp⟩
      have := h2 j (by have := List.mem_range.1 hj; omega)
      unfold Lib.occAt at this
      rw [this] at hp
      simp at hp
  · constructor
    · intro _
      exact ⟨i, List.mem_range.2 (by omega), h3⟩
    · intro _; omega
theorem any_next (v s : By) (k : Nat) : ((List.range (k + 1)).any fun i => s.isPrefixOf (v.drop i)) = (((List.range k).any fun i => s.isPrefixOf (v.drop i)) || s.isPrefixOf (v.drop k)) := by
  rw [List.range_succ, List.any_append]
  simp
end Go.Gh
namespace Go.Proofs.YtjmplhkdohlbcaaGreatDoor.Lab
open Go.RowKit Go.Gh
set_option linter.unusedVariables false
set_option linter.unusedSimpArgs false
set_option maxHeartbeats 4000000 in
set_option maxRecDepth 100000 in
theorem value_any (v : Value) (L : List Lb) (nm : By) (w : World) (hs : Sp LbR 2 w v L) : Calls Tryz.prog 71 #[v, .string (mkS nm)] w fun e w' => e = .returned (.string (mkS (valF L nm))) ∧ Below w.heap.size w w' := by
  obtain ⟨n, hn⟩ : ∃ n, L.length = n := ⟨_, rfl⟩
  obtain ⟨ao, c, rfl, hnc, hc⟩ := hs.shapeN hn
  have HN := Lib.hid hn
  have HS := Lib.hid hs
  obtain ⟨R, hR⟩ : ∃ R, mkS (valF L nm) = R := ⟨_, rfl⟩
  rw [hR]
  have HR := Lib.hid hR
  obtain ⟨Q, hQ⟩ : ∃ Q, mkS nm = Q := ⟨_, rfl⟩
  rw [hQ]
  have HQ := Lib.hid hQ
  clear hn hs hR hQ
  go_enter Tryz.func71, Tryz.ntmps71
  go_wp2_with fail
  go_loopw [9] (fun i wr => ∃ (k : Nat), k ≤ n ∧ i = .int .i64 k ∧ Hid (∀ y ∈ L.take k, y.nm ≠ nm) ∧ Below w.heap.size w wr) (fun i _ => n - (intOf i).toNat)
  case atStart => exact ⟨0, Nat.zero_le _, rfl, Lib.hid (fun y hy => by simp at hy), Below.refl _ _⟩
  case round =>
    obtain ⟨k, hk, rfl, HT, hbel⟩ := hrel
    have hsz := hbel.size
    by_cases hlt : k < n
    case neg =>
      obtain rfl : k = n := by omega
      have HF : Hid (R = ⟨#[]⟩) := Lib.hid (by
        have h := HT.out
        rw [List.take_of_length_le (by rw [HN.out]; exact Nat.le_refl _)] at h
        rw [← HR.out, valF_none h]
        rfl)
      go_wp2_with fail
      go_ret
      exact ⟨by rw [HF.out]; rfl, hbel⟩
    obtain ⟨x, hx⟩ : ∃ x, L[k]? = some x := ⟨_, List.getElem?_eq_getElem (by rw [HN.out]; exact hlt)⟩
    obtain ⟨b, off, cs, rfl, ⟨rfl, hl1, hl2⟩, _, hck⟩ := (HS.out.below lbR_mono hbel).get hx
    have HX := Lib.hid hx
    have c0 := hck 0 _ rfl
    have c1 := hck 1 _ rfl
    rw [Nat.add_zero] at c0
    have heq : ((mkS x.nm).toList == Q.toList) = decide (x.nm = nm) := by
      rw [← HQ.out, mkS_list, mkS_list, Bool.eq_iff_iff]
      simp
    obtain ⟨Sn, hSn⟩ : ∃ S, mkS x.nm = S := ⟨_, rfl⟩
    obtain ⟨V, hV⟩ : ∃ S, mkS x.vl = S := ⟨_, rfl⟩
    rw [hSn] at c0 heq
    rw [hV] at c1
    have HV := Lib.hid hV
    clear hck hx hl1 hl2 hSn hV
    by_cases he : x.nm = nm
    · rw [decide_eq_true he] at heq
      have HF : Hid (R = V) := Lib.hid (by rw [← HR.out, valF_hit HT.out HX.out he]; exact HV.out)
      clear he
      go_wp2_with fail
      go_ret
      refine ⟨by rw [HF.out]; rfl, ?_⟩
      exact hbel.alloc hsz _
    · rw [decide_eq_false he] at heq
      have HT2 : Hid (∀ y ∈ L.take (k + 1), y.nm ≠ nm) := Lib.hid (fun y hy => by
        rw [List.take_add_one, HX.out] at hy
        rcases List.mem_append.1 hy with h | h
        · exact HT.out y h
        · have : y = x := by simpa using h
          rw [this]; exact he)
      have HB2 := Lib.hid (hbel.alloc hsz (Obj.cells #[.string Sn, .string V] 75))
      clear he
      go_wp2_with fail
      go_roundw
      case rel => exact ⟨k + 1, by omega, by go_num, HT2, HB2.out⟩
      case measure => simp [intOf]; omega
set_option maxHeartbeats 4000000 in
set_option maxRecDepth 100000 in
theorem valuein_any (v : Value) (L : List Lb) (nm : By) (w : World) (hs : Sp LbR 2 w v L) : Calls Tryz.prog 54 #[v, .string (mkS nm)] w fun e w' => e = .returned (.string (mkS (valL L nm))) ∧ Below w.heap.size w w' := by
  obtain ⟨n, hn⟩ : ∃ n, L.length = n := ⟨_, rfl⟩
  obtain ⟨ao, c, rfl, hnc, hc⟩ := hs.shapeN hn
  have HN := Lib.hid hn
  have HS := Lib.hid hs
  obtain ⟨Q, hQ⟩ : ∃ Q, mkS nm = Q := ⟨_, rfl⟩
  rw [hQ]
  have HQ := Lib.hid hQ
  clear hn hs hQ
  go_enter Tryz.func54, Tryz.ntmps54
  go_wp2_with fail
  go_loopw [5, 10] (fun u i wr => ∃ (k : Nat), k ≤ n ∧ i = .int .i64 k ∧ u = .string (mkS (valL (L.take k) nm)) ∧ Below w.heap.size w wr) (fun _ i _ => n - (intOf i).toNat)
  case atStart => exact ⟨0, Nat.zero_le _, rfl, rfl, Below.refl _ _⟩
  case round =>
    obtain ⟨k, hk, rfl, rfl, hbel⟩ := hrel
    have hsz := hbel.size
    by_cases hlt : k < n
    case neg =>
      obtain rfl : k = n := by omega
      have HF : Hid (valL (L.take k) nm = valL L nm) := Lib.hid (by rw [List.take_of_length_le (by rw [HN.out]; exact Nat.le_refl _)])
      go_wp2_with fail
      go_ret
      exact ⟨by rw [← HF.out]; rfl, hbel⟩
    obtain ⟨x, hx⟩ : ∃ x, L[k]? = some x := ⟨_, List.getElem?_eq_getElem (by rw [HN.out]; exact hlt)⟩
    obtain ⟨b, off, cs, rfl, ⟨rfl, hl1, hl2⟩, _, hck⟩ := (HS.out.below lbR_mono hbel).get hx
    have HVN := Lib.hid (valL_next (n := nm) hx)
    have c0 := hck 0 _ rfl
    have c1 := hck 1 _ rfl
    rw [Nat.add_zero] at c0
    have heq : ((mkS x.nm).toList == Q.toList) = decide (x.nm = nm) := by
      rw [← HQ.out, mkS_list, mkS_list, Bool.eq_iff_iff]
      simp
    obtain ⟨Sn, hSn⟩ : ∃ S, mkS x.nm = S := ⟨_, rfl⟩
    obtain ⟨V, hV⟩ : ∃ S, mkS x.vl = S := ⟨_, rfl⟩
    rw [hSn] at c0 heq
    rw [hV] at c1
    have HV := Lib.hid hV
    have HB2 := Lib.hid (hbel.alloc hsz (Obj.cells #[.string Sn, .string V] 75))
    clear hck hx hl1 hl2 hSn hV
    by_cases he : x.nm = nm
    · rw [decide_eq_true he] at heq
      have HF : Hid (V = mkS (valL (L.take (k + 1)) nm)) := Lib.hid (by rw [HVN.out, if_pos he]; exact HV.out.symm)
      clear he
      go_wp2_with fail
      go_roundw
      case rel => exact ⟨k + 1, by omega, by go_num, by rw [HF.out], HB2.out⟩
      case measure => simp [intOf]; omega
    · rw [decide_eq_false he] at heq
      have HF : Hid (valL (L.take k) nm = valL (L.take (k + 1)) nm) := Lib.hid (by rw [HVN.out, if_neg he])
      clear he
      go_wp2_with fail
      go_roundw
      case rel => exact ⟨k + 1, by omega, by go_num, by rw [HF.out], HB2.out⟩
      case measure => simp [intOf]; omega
end Go.Proofs.YtjmplhkdohlbcaaGreatDoor.Lab
/-
  What an expression tells of series, as two ways of reckoning: as plain functions.
-/
namespace Go.Gh
open Go.Proofs.YtjmplhkdohlbcaaGreatDoor.Lab
set_option linter.unusedVariables false
set_option linter.unusedSimpArgs false
/-- Labels and a number. -/
abbrev Rw := List Lb × Int
/-- A series: labels and samples. -/
abbrev Srs := List Lb × List (List Int)
def kyL (l : List Lb) : By := textM (asM l)
theorem right_as {l : List Lb} (h : labelF l = 0) : Right (asM l) := (matchF_zero (labelF_match h)).2
theorem ky_inj {a b : List Lb} (ha : labelF a = 0) (hb : labelF b = 0) (h : kyL a = kyL b) : a = b := by
  unfold kyL textM at h
  injection h with _ h
  have := text_inj _ _ (right_as ha) (right_as hb) h
  have h2 := congrArg asL this
  rwa [asL_asM, asL_asM] at h2
theorem by_tri (a b : By) : a < b ∨ a = b ∨ b < a := by
  by_cases h1 : a < b
  · exact Or.inl h1
  · by_cases h2 : b < a
    · exact Or.inr (Or.inr h2)
    · exact Or.inr (Or.inl (List.le_antisymm (List.not_lt.1 h2) (List.not_lt.1 h1)))
/-- In order of the labels' texts. -/
def Asc2 (S : List Rw) : Prop := S.Pairwise fun a b => kyL a.1 < kyL b.1
/-- The keys are all different. -/
def Dst (S : List Rw) : Prop := S.Pairwise fun a b => kyL a.1 ≠ kyL b.1
theorem Asc2.dst {S : List Rw} (h : Asc2 S) : Dst S := h.imp fun h e => by rw [e] at h; exact List.lt_irrefl _ h
theorem Dst.perm {S U : List Rw} (h : Dst S) (hp : S.Perm U) : Dst U := (hp.pairwise_iff (fun h e => h e.symm)).1 h
theorem Dst.one {S : List Rw} (h : Dst S) {x y : Rw} (hx : x ∈ S) (hy : y ∈ S) (e : kyL x.1 = kyL y.1) : x = y := by
  induction S with
  | nil => simp at hx
  | cons z t ih =>
    unfold Dst at h
    rw [List.pairwise_cons] at h
    rcases List.mem_cons.1 hx with e1 | hx'
    · rcases List.mem_cons.1 hy with e2 | hy'
      · rw [e1, e2]
      · rw [e1] at e; exact absurd e (h.1 _ hy')
    · rcases List.mem_cons.1 hy with e2 | hy'
      · rw [e2] at e; exact absurd e.symm (h.1 _ hx')
      · exact ih h.2 hx' hy'
/-! ### One row more: at the end, or into the row with its key -/
def putP (f : Int → Int → Int) (r : Rw) : List Rw → List Rw
  | [] => [r]
  | x :: t => if kyL x.1 = kyL r.1 then (x.1, f x.2 r.2) :: t else x :: putP f r t
theorem putP_none {f : Int → Int → Int} {r : Rw} : ∀ {U : List Rw}, (∀ x ∈ U, kyL x.1 ≠ kyL r.1) → putP f r U = U ++ [r]
  | [], _ => rfl
  | x :: t, h => by
    rw [putP, if_neg (h x (by simp)), putP_none (fun y hy => h y (by simp [hy]))]
    rfl
theorem putP_some {f : Int → Int → Int} {r x : Rw} {B : List Rw} : ∀ {A : List Rw}, (∀ y ∈ A, kyL y.1 ≠ kyL r.1) → kyL x.1 = kyL r.1 → putP f r (A ++ x :: B) = A ++ (x.1, f x.2 r.2) :: B
  | [], _, h => by rw [List.nil_append, putP, if_pos h]; rfl
  | y :: A, h, hx => by
    rw [List.cons_append, putP, if_neg (h y (by simp)), putP_some (fun z hz => h z (by simp [hz])) hx]
    rfl
theorem putP_len {f : Int → Int → Int} {r : Rw} : ∀ (U : List Rw), (putP f r U).length ≤ U.length + 1
  | [] => by simp [putP]
  | x :: t => by
    rw [putP]
    split
    · simp
    · simpa using putP_len t
/-- One row more, in order: step by step. -/
def stepM (f : Int → Int → Int) (r : Rw) (s : Bool × List Rw) (x : Rw) : Bool × List Rw :=
  (s.1 || decide (kyL r.1 < kyL x.1) || decide (kyL x.1 = kyL r.1), (s.2 ++ if s.1 = false ∧ kyL r.1 < kyL x.1 then [r] else []) ++ [if kyL x.1 = kyL r.1 then (x.1, f x.2 r.2) else x])
def endM (r : Rw) (s : Bool × List Rw) : List Rw := if s.1 then s.2 else s.2 ++ [r]
def moreF (f : Int → Int → Int) (r : Rw) (S : List Rw) : List Rw := endM r (S.foldl (stepM f r) (false, []))
theorem more_rest {f : Int → Int → Int} {r : Rw} : ∀ {S : List Rw} {o : List Rw}, (∀ x ∈ S, kyL x.1 ≠ kyL r.1) → S.foldl (stepM f r) (true, o) = (true, o ++ S)
  | [], o, _ => by simp
  | x :: t, o, h => by
    rw [List.foldl_cons]
    have e : stepM f r (true, o) x = (true, o ++ [x]) := by
      unfold stepM
      simp [h x (by simp)]
    rw [e, more_rest (fun y hy => h y (by simp [hy]))]
    simp
theorem more_low {f : Int → Int → Int} {r : Rw} : ∀ {A : List Rw} {o : List Rw}, (∀ x ∈ A, kyL x.1 < kyL r.1) → A.foldl (stepM f r) (false, o) = (false, o ++ A)
  | [], o, _ => by simp
  | x :: t, o, h => by
    rw [List.foldl_cons]
    have h1 := h x (by simp)
    have h2 : ¬ kyL r.1 < kyL x.1 := fun h3 => List.lt_irrefl _ (List.lt_trans h1 h3)
    have h3 : ¬ kyL x.1 = kyL r.1 := fun e => by rw [e] at h1; exact List.lt_irrefl _ h1
    have e : stepM f r (false, o) x = (false, o ++ [x]) := by
      unfold stepM
      simp [h2, h3]
    rw [e, more_low (fun y hy => h y (by simp [hy]))]
    simp
theorem low_split {r : Rw} : ∀ {S : List Rw}, Asc2 S → (∀ x ∈ S, kyL x.1 ≠ kyL r.1) → ∃ A B, S = A ++ B ∧ (∀ x ∈ A, kyL x.1 < kyL r.1) ∧ (∀ x ∈ B, kyL r.1 < kyL x.1)
  | [], _, _ => ⟨[], [], rfl, by simp, by simp⟩
  | x :: t, h, hn => by
    unfold Asc2 at h
    rw [List.pairwise_cons] at h
    rcases by_tri (kyL x.1) (kyL r.1) with h1 | h1 | h1
    · obtain ⟨A, B, rfl, h2, h3⟩ := low_split (r := r) h.2 (fun y hy => hn y (by simp [hy]))
      exact ⟨x :: A, B, rfl, fun y hy => (List.mem_cons.1 hy).elim (fun e => by rw [e]; exact h1) (h2 y), h3⟩
    · exact absurd h1 (hn x (by simp))
    · exact ⟨[], x :: t, rfl, by simp, fun y hy => (List.mem_cons.1 hy).elim (fun e => by rw [e]; exact h1) (fun hy => List.lt_trans h1 (h.1 y hy))⟩
theorem more_absent {f : Int → Int → Int} {r : Rw} {A B : List Rw} (h1 : ∀ x ∈ A, kyL x.1 < kyL r.1) (h2 : ∀ x ∈ B, kyL r.1 < kyL x.1) : moreF f r (A ++ B) = A ++ r :: B := by
  unfold moreF
  rw [List.foldl_append, more_low h1, List.nil_append]
  cases B with
  | nil => rfl
  | cons x t =>
    have h3 := h2 x (by simp)
    have h4 : ¬ kyL x.1 = kyL r.1 := fun e => by rw [e] at h3; exact List.lt_irrefl _ h3
    rw [List.foldl_cons]
    have e : stepM f r (false, A) x = (true, A ++ [r] ++ [x]) := by
      unfold stepM
      simp [h3, h4]
    rw [e, more_rest (fun y hy e' => by have h5 := h2 y (by simp [hy]); rw [e'] at h5; exact List.lt_irrefl _ h5)]
    simp [endM]
theorem more_there {f : Int → Int → Int} {r x : Rw} {A B : List Rw} (ha : Asc2 (A ++ x :: B)) (hx : kyL x.1 = kyL r.1) : moreF f r (A ++ x :: B) = A ++ (x.1, f x.2 r.2) :: B := by
  unfold Asc2 at ha
  rw [List.pairwise_append, List.pairwise_cons] at ha
  obtain ⟨h1, ⟨h2, h3⟩, h4⟩ := ha
  unfold moreF
  rw [List.foldl_append, more_low (fun y hy => by rw [← hx]; exact h4 y hy x (by simp)), List.nil_append, List.foldl_cons]
  have h5 : ¬ kyL r.1 < kyL x.1 := by rw [hx]; exact List.lt_irrefl _
  have e : stepM f r (false, A) x = (true, A ++ [(x.1, f x.2 r.2)]) := by
    unfold stepM
    simp only [if_pos hx, decide_eq_false h5, decide_eq_true hx, Bool.or_true, h5, and_false, if_false, List.append_nil]
  rw [e, more_rest (fun y hy e' => by have h6 := h2 y hy; rw [hx, e'] at h6; exact List.lt_irrefl _ h6)]
  simp [endM]
/-- One row more, both ways: the same rows. -/
theorem put_more {f : Int → Int → Int} {r : Rw} {S U : List Rw} (ha : Asc2 S) (hp : S.Perm U) : (moreF f r S).Perm (putP f r U) ∧ Asc2 (moreF f r S) := by
  by_cases h : ∀ x ∈ S, kyL x.1 ≠ kyL r.1
  · obtain ⟨A, B, rfl, h1, h2⟩ := low_split (r := r) ha h
    rw [more_absent h1 h2, putP_none (fun x hx => h x (hp.mem_iff.2 hx))]
    refine ⟨List.perm_middle.trans ((List.Perm.cons r hp).trans (List.perm_append_singleton r U).symm), ?_⟩
    unfold Asc2 at ha ⊢
    rw [List.pairwise_append] at ha ⊢
    rw [List.pairwise_cons]
    refine ⟨ha.1, ⟨h2, ha.2.1⟩, fun y hy z hz => ?_⟩
    rcases List.mem_cons.1 hz with rfl | hz
    · exact h1 y hy
    · exact ha.2.2 y hy z hz
  · obtain ⟨x, hx⟩ := Classical.not_forall.1 h
    obtain ⟨hx, he⟩ := Classical.not_imp.1 hx
    have he := Classical.not_not.1 he
    obtain ⟨A, B, rfl⟩ := List.append_of_mem hx
    obtain ⟨A', B', rfl⟩ := List.append_of_mem (hp.mem_iff.1 hx)
    have hd := ha.dst.perm hp
    have hA' : ∀ y ∈ A', kyL y.1 ≠ kyL r.1 := by
      intro y hy e
      unfold Dst at hd
      rw [List.pairwise_append] at hd
      exact hd.2.2 y hy x (by simp) (e.trans he.symm)
    rw [more_there ha he, putP_some hA' he]
    have h1 : (A ++ B).Perm (A' ++ B') := by
      have := (List.perm_middle.symm.trans (hp.trans List.perm_middle))
      exact (List.perm_cons x).1 this
    refine ⟨List.perm_middle.trans ((List.Perm.cons _ h1).trans List.perm_middle.symm), ?_⟩
    unfold Asc2 at ha ⊢
    rw [List.pairwise_append, List.pairwise_cons] at ha ⊢
    refine ⟨ha.1, ⟨ha.2.1.1, ha.2.1.2⟩, fun y hy z hz => ?_⟩
    rcases List.mem_cons.1 hz with rfl | hz
    · exact ha.2.2 y hy x (by simp)
    · exact ha.2.2 y hy z (by simp [hz])
/-- Many rows more, both ways. -/
theorem puts_mores {f : Int → Int → Int} : ∀ (R : List Rw) {S U : List Rw}, Asc2 S → S.Perm U → (R.foldl (fun o r => moreF f r o) S).Perm (R.foldl (fun o r => putP f r o) U) ∧ Asc2 (R.foldl (fun o r => moreF f r o) S)
  | [], S, U, h1, h2 => ⟨h2, h1⟩
  | r :: R, S, U, h1, h2 => by
    obtain ⟨h3, h4⟩ := put_more (f := f) (r := r) h1 h2
    exact puts_mores R h4 h3
theorem puts_dst {f : Int → Int → Int} : ∀ (R U : List Rw), Dst (U ++ R) → R.foldl (fun o r => putP f r o) U = U ++ R
  | [], U, _ => by simp
  | r :: R, U, h => by
    have h1 : ∀ x ∈ U, kyL x.1 ≠ kyL r.1 := by
      unfold Dst at h
      rw [List.pairwise_append] at h
      exact fun x hx => h.2.2 x hx r (by simp)
    rw [List.foldl_cons, putP_none h1, puts_dst R (U ++ [r]) (by simpa using h)]
    simp
/-- Sorted by the key. -/
def srtR (U : List Rw) : List Rw := U.mergeSort fun a b => decide (kyL a.1 ≤ kyL b.1)
theorem srtR_is {S U : List Rw} (ha : Asc2 S) (hp : S.Perm U) : srtR U = S := by
  have h1 : (srtR U).Pairwise fun a b => kyL a.1 ≤ kyL b.1 := by
    have := List.pairwise_mergeSort (le := fun (a b : Rw) => decide (kyL a.1 ≤ kyL b.1)) (fun a b c h1 h2 => by
      rw [decide_eq_true_eq] at *
      exact List.le_trans h1 h2) (fun a b => by
      rw [Bool.or_eq_true, decide_eq_true_eq, decide_eq_true_eq]
      exact List.le_total _ _) U
    exact this.imp fun h => of_decide_eq_true h
  have h2 : S.Pairwise fun a b => kyL a.1 ≤ kyL b.1 := ha.imp fun h => List.le_of_lt h
  have h3 : (srtR U).Perm S := (List.mergeSort_perm _ _).trans hp.symm
  exact h3.eq_of_pairwise (le := fun a b => kyL a.1 ≤ kyL b.1) (fun a b ha' hb h4 h5 => ha.dst.one (h3.mem_iff.1 ha') hb (List.le_antisymm h4 h5)) h1 h2
theorem srtR_len (U : List Rw) : (srtR U).length = U.length := List.length_mergeSort _
end Go.Gh
/-
  What an expression tells of series: the program's way and the document's, and that they are one.
-/
namespace Go.Gh
open Go.Proofs.YtjmplhkdohlbcaaGreatDoor.Lab
set_option linter.unusedVariables false
set_option linter.unusedSimpArgs false
def opK (k a b : Int) : Int := if k = 4 then max a b else IntKind.i64.wrap (a + b)
def sec (a b : Int) : Int := b
def winF (now w : Int) (S : List (List Int)) : List (List Int) := betF (now - w + 1) (now + 1) S
def selO (now w : Int) (m : List Mt) (s : Srs) : Option Rw := if fitsB s.1 m = true then (match (winF now w s.2).getLast? with | none => none | some z => some (s.1, rg z 1)) else none
def selF (all : List Srs) (now w : Int) (m : List Mt) : List Rw := all.filterMap (selO now w m)
def byF (b : List By) (l : List Lb) : List Lb := l.filter fun x => decide (x.nm ∈ b)
def grR (k : Int) (b : List By) (y : Rw) : Rw := (byF b y.1, if k = 5 then 1 else y.2)
def grpF (k : Int) (b : List By) (S : List Rw) : List Rw := S.foldl (fun o y => putP (opK k) (grR k b y) o) []
def bothK (k a b : Int) : Int := if k = 6 then IntKind.i64.wrap (a + b) else if k = 7 then IntKind.i64.wrap (a - b) else IntKind.i64.wrap (a * b)
def aloneS (S : List Rw) : Bool := match S with | [x] => decide (x.1.length = 0) | _ => false
def prP (k : Int) (a b : Bool) (y z : Rw) : Option Rw := if b = true then some (y.1, bothK k y.2 z.2) else if a = true then some (z.1, bothK k y.2 z.2) else if kyL y.1 = kyL z.1 then some (y.1, bothK k y.2 z.2) else none
def prsF (k : Int) (L M : List Rw) : List Rw := L.flatMap fun y => M.filterMap (prP k (aloneS L) (aloneS M) y)
def evA (all : List Srs) (now k n w : Int) (m : List Mt) (b : List By) (ts : List (List Rw)) : List Rw :=
  if k = 1 then [([], n)] else if k = 2 then srtR (selF all now w m) else if k = 3 ∨ k = 4 ∨ k = 5 then srtR (grpF k b (ts.headD [])) else srtR (prsF k (ts.headD []) (ts.getD 1 []))
mutual
/-- The program's way. -/
def evX (all : List Srs) (now : Int) : Ex → List Rw
  | ⟨k, n, w, m, b, xs⟩ => evA all now k n w m b (evL all now xs)
def evL (all : List Srs) (now : Int) : List Ex → List (List Rw)
  | [] => []
  | y :: r => evX all now y :: evL all now r
end
theorem evX_eq (all : List Srs) (now : Int) (x : Ex) : evX all now x = evA all now x.kd x.n x.wd x.ms x.bs (evL all now x.xs) := by
  obtain ⟨_, _, _, _, _, xs⟩ := x
  rw [evX]
  rfl
theorem evL_nil (all : List Srs) (now : Int) : evL all now [] = [] := by rw [evL]
theorem evL_cons (all : List Srs) (now : Int) (y : Ex) (r : List Ex) : evL all now (y :: r) = evX all now y :: evL all now r := by rw [evL]
/-! ### The document's way -/
def oneR (now w : Int) (L : List Lb) (o : List Rw) (z : List Int) : List Rw := if now - w < rg z 0 ∧ rg z 0 ≤ now then moreF sec (L, rg z 1) o else o
def selR1 (now w : Int) (m : List Mt) (o : List Rw) (s : Srs) : List Rw := if fitsB s.1 m = true then s.2.foldl (oneR now w s.1) o else o
def selR (all : List Srs) (now w : Int) (m : List Mt) : List Rw := all.foldl (selR1 now w m) []
def byR1 (b : List By) (x : Lb) : List Lb := (b.filter fun n => decide (n = x.nm)).map fun _ => x
def byR (b : List By) (l : List Lb) : List Lb := l.flatMap (byR1 b)
def gdR (k : Int) (b : List By) (y : Rw) : Rw := (byR b y.1, if k = 5 then 1 else y.2)
def grpR (k : Int) (b : List By) (S : List Rw) : List Rw := S.foldl (fun o y => moreF (opK k) (gdR k b y) o) []
def prR (k : Int) (a b : Bool) (y z : Rw) : Option Rw := if b = true then some (y.1, bothK k y.2 z.2) else if a = true then some (z.1, bothK k y.2 z.2) else if kyL y.1 = kyL z.1 then some (z.1, bothK k y.2 z.2) else none
def prsR (k : Int) (L M : List Rw) : List Rw := L.flatMap fun y => M.filterMap (prR k (aloneS L) (aloneS M) y)
def akA (all : List Srs) (now k n w : Int) (m : List Mt) (b : List By) (ts : List (List Rw)) : List Rw :=
  if k = 1 then [([], n)] else if k = 2 then selR all now w m else if k = 3 ∨ k = 4 ∨ k = 5 then grpR k b (ts.headD []) else (prsR k (ts.headD []) (ts.getD 1 [])).foldl (fun o r => moreF sec r o) []
mutual
/-- The document's way. -/
def akX (all : List Srs) (now : Int) : Ex → List Rw
  | ⟨k, n, w, m, b, xs⟩ => akA all now k n w m b (akL all now xs)
def akL (all : List Srs) (now : Int) : List Ex → List (List Rw)
  | [] => []
  | y :: r => akX all now y :: akL all now r
end
theorem akX_eq (all : List Srs) (now : Int) (x : Ex) : akX all now x = akA all now x.kd x.n x.wd x.ms x.bs (akL all now x.xs) := by
  obtain ⟨_, _, _, _, _, xs⟩ := x
  rw [akX]
  rfl
theorem akL_nil (all : List Srs) (now : Int) : akL all now [] = [] := by rw [akL]
theorem akL_cons (all : List Srs) (now : Int) (y : Ex) (r : List Ex) : akL all now (y :: r) = akX all now y :: akL all now r := by rw [akL]
/-! ### They are one -/
def Gd (S : List Rw) : Prop := ∀ r ∈ S, labelF r.1 = 0
structure Fine (n : Nat) (S : List Rw) : Prop where
  asc : Asc2 S
  gd : Gd S
  len : S.length ≤ max 1 n
theorem asc_nil : Asc2 [] := List.Pairwise.nil
theorem sort_fold {f : Int → Int → Int} (R : List Rw) : srtR (R.foldl (fun o r => putP f r o) []) = R.foldl (fun o r => moreF f r o) [] ∧ Asc2 (R.foldl (fun o r => moreF f r o) []) := by
  obtain ⟨h1, h2⟩ := puts_mores (f := f) R asc_nil (List.Perm.refl [])
  exact ⟨srtR_is h2 h1, h2⟩
theorem sort_dst {R : List Rw} (h : Dst R) : srtR R = R.foldl (fun o r => moreF sec r o) [] ∧ Asc2 (R.foldl (fun o r => moreF sec r o) []) := by
  have := sort_fold (f := sec) R
  rwa [puts_dst R [] (by simpa using h), List.nil_append] at this
theorem srt_gd {U : List Rw} (h : Gd U) : Gd (srtR U) := fun r hr => h r ((List.mergeSort_perm _ _).mem_iff.1 hr)
/-- Twice into one key: the last stands. -/
theorem more_twice {L : List Lb} {a b : Int} {o : List Rw} (h : Asc2 o) : moreF sec (L, b) (moreF sec (L, a) o) = moreF sec (L, b) o := by
  by_cases hn : ∀ x ∈ o, kyL x.1 ≠ kyL (L, a).1
  · obtain ⟨A, B, rfl, h1, h2⟩ := low_split (r := (L, a)) h hn
    have h3 := (put_more (f := sec) (r := (L, a)) h (List.Perm.refl _)).2
    rw [more_absent h1 h2] at h3 ⊢
    rw [more_there (r := (L, b)) h3 rfl, more_absent (r := (L, b)) h1 h2]
    rfl
  · obtain ⟨x, hx⟩ := Classical.not_forall.1 hn
    obtain ⟨hx, he⟩ := Classical.not_imp.1 hx
    have he := Classical.not_not.1 he
    obtain ⟨A, B, rfl⟩ := List.append_of_mem hx
    have h3 := (put_more (f := sec) (r := (L, a)) h (List.Perm.refl _)).2
    rw [more_there h he] at h3 ⊢
    rw [more_there (r := (L, b)) h3 he, more_there (r := (L, b)) h he]
    rfl
theorem one_fold (now w : Int) (L : List Lb) : ∀ (S : List (List Int)) {o : List Rw}, Asc2 o → S.foldl (oneR now w L) o = match (winF now w S).getLast? with | none => o | some z => moreF sec (L, rg z 1) o
  | [], o, _ => rfl
  | z :: t, o, h => by
    rw [List.foldl_cons]
    by_cases hc : now - w < rg z 0 ∧ rg z 0 ≤ now
    · have e1 : oneR now w L o z = moreF sec (L, rg z 1) o := if_pos hc
      have e2 : winF now w (z :: t) = z :: winF now w t := by
        unfold winF betF
        rw [List.filter_cons_of_pos (by rw [Bool.and_eq_true, decide_eq_true_eq, decide_eq_true_eq]; omega)]
      rw [e1, one_fold now w L t (put_more (f := sec) (r := (L, rg z 1)) h (List.Perm.refl _)).2, e2]
      cases hl : winF now w t with
      | nil => rfl
      | cons y r =>
        rw [List.getLast?_cons_cons]
        cases hg : (y :: r).getLast? with
        | none => simp at hg
        | some q => exact more_twice h
    · have e1 : oneR now w L o z = o := if_neg hc
      have e2 : winF now w (z :: t) = winF now w t := by
        unfold winF betF
        rw [List.filter_cons_of_neg (by rw [Bool.and_eq_true, decide_eq_true_eq, decide_eq_true_eq]; omega)]
      rw [e1, one_fold now w L t h, e2]
theorem sel_fold (now w : Int) (m : List Mt) : ∀ (all : List Srs) {o : List Rw}, Asc2 o → all.foldl (selR1 now w m) o = (all.filterMap (selO now w m)).foldl (fun o r => moreF sec r o) o
  | [], o, _ => rfl
  | s :: t, o, h => by
    rw [List.foldl_cons]
    by_cases hf : fitsB s.1 m = true
    · have e1 : selR1 now w m o s = match (winF now w s.2).getLast? with | none => o | some z => moreF sec (s.1, rg z 1) o := (if_pos hf).trans (one_fold now w s.1 s.2 h)
      have e2 : selO now w m s = match (winF now w s.2).getLast? with | none => none | some z => some (s.1, rg z 1) := if_pos hf
      cases hg : (winF now w s.2).getLast? with
      | none =>
        rw [hg] at e1 e2
        rw [e1, List.filterMap_cons, e2]
        exact sel_fold now w m t h
      | some z =>
        rw [hg] at e1 e2
        rw [e1, List.filterMap_cons, e2]
        exact sel_fold now w m t (put_more (f := sec) (r := (s.1, rg z 1)) h (List.Perm.refl _)).2
    · have e1 : selR1 now w m o s = o := if_neg hf
      have e2 : selO now w m s = none := if_neg hf
      rw [e1, List.filterMap_cons, e2]
      exact sel_fold now w m t h
theorem selO_lab {now w : Int} {m : List Mt} {s : Srs} {r : Rw} (h : selO now w m s = some r) : r.1 = s.1 := by
  unfold selO at h
  split at h
  · split at h
    · simp at h
    · simp at h; rw [← h]
  · simp at h
/-- Series that are right: labels, and all different. -/
structure SrsOk (all : List Srs) : Prop where
  lab : ∀ s ∈ all, labelF s.1 = 0
  dst : all.Pairwise fun a b => a.1 ≠ b.1
theorem sel_gd {all : List Srs} (h : SrsOk all) (now w : Int) (m : List Mt) : Gd (selF all now w m) := by
  intro r hr
  obtain ⟨s, hs, e⟩ := List.mem_filterMap.1 hr
  rw [selO_lab e]
  exact h.lab s hs
theorem sel_dst {all : List Srs} (h : SrsOk all) (now w : Int) (m : List Mt) : Dst (selF all now w m) := by
  unfold Dst selF
  rw [List.pairwise_filterMap]
  refine h.dst.imp_of_mem fun ha hb hne r hr r' hr' e => hne ?_
  rw [selO_lab hr, selO_lab hr'] at e
  exact ky_inj (h.lab _ ha) (h.lab _ hb) e
theorem sel_one {all : List Srs} (h : SrsOk all) (now w : Int) (m : List Mt) : selR all now w m = srtR (selF all now w m) ∧ Fine all.length (srtR (selF all now w m)) := by
  obtain ⟨h1, h2⟩ := sort_dst (sel_dst h now w m)
  refine ⟨?_, ⟨by rw [h1]; exact h2, srt_gd (sel_gd h now w m), ?_⟩⟩
  · rw [h1]
    exact sel_fold now w m all asc_nil
  · rw [srtR_len]
    have : (selF all now w m).length ≤ all.length := List.length_filterMap_le _ _
    omega
theorem goL_weak {p : Option By} {q : By} : ∀ {r : List Lb}, goL (some q) r = 0 → badO p q = false → goL p r = 0
  | [], _, _ => rfl
  | x :: r, h, hp => by
    rw [goL_cons] at h ⊢
    split at h
    · exact absurd h (by decide)
    · rename_i h1
      split at h
      · exact absurd h (by decide)
      · rename_i h2
        rw [if_neg h1, if_neg]
        · exact h
        · cases p with
          | none => simp [badO]
          | some p =>
            simp [badO] at hp h2 ⊢
            exact List.lt_trans hp h2
theorem goL_filter (f : Lb → Bool) : ∀ {l : List Lb} {p : Option By}, goL p l = 0 → goL p (l.filter f) = 0
  | [], _, _ => rfl
  | x :: r, p, h => by
    have h0 := h
    rw [goL_cons] at h
    split at h
    · exact absurd h (by decide)
    · rename_i h1
      split at h
      · exact absurd h (by decide)
      · rename_i h2
        split at h
        · exact absurd h (by decide)
        · rename_i h3
          cases hf : f x with
          | true =>
            rw [List.filter_cons_of_pos hf, goL_cons, if_neg h1, if_neg h2, if_neg h3]
            exact goL_filter f h
          | false =>
            rw [List.filter_cons_of_neg (by rw [hf]; decide)]
            exact goL_weak (goL_filter f h) (by simpa using h2)
theorem label_filter (f : Lb → Bool) {l : List Lb} (h : labelF l = 0) : labelF (l.filter f) = 0 := by
  unfold labelF at h ⊢
  have hl := List.length_filter_le f l
  split at h
  · exact absurd h (by decide)
  · rw [if_neg (by omega)]
    exact goL_filter f h
theorem goL_by : ∀ {b : List By} {p : Option By}, goL p (byL b) = 0 → b.Pairwise (· < ·) ∧ ∀ q, p = some q → ∀ x ∈ b, q < x
  | [], p, _ => ⟨List.Pairwise.nil, fun _ _ x hx => by simp at hx⟩
  | s :: b, p, h => by
    have h : goL p (⟨s, []⟩ :: byL b) = 0 := h
    rw [goL_cons] at h
    split at h
    · exact absurd h (by decide)
    · split at h
      · exact absurd h (by decide)
      · rename_i h2
        split at h
        · exact absurd h (by decide)
        · obtain ⟨h4, h5⟩ := goL_by h
          refine ⟨List.pairwise_cons.2 ⟨h5 s rfl, h4⟩, fun q e x hx => ?_⟩
          subst e
          have h6 : q < s := by simpa [badO] using h2
          rcases List.mem_cons.1 hx with e | hx
          · rw [e]; exact h6
          · exact List.lt_trans h6 (h5 s rfl x hx)
theorem by_asc {b : List By} (h : labelF (byL b) = 0) : b.Pairwise (· < ·) := by
  unfold labelF at h
  split at h
  · exact absurd h (by decide)
  · exact (goL_by h).1
theorem filter_eq_one {n : By} : ∀ {b : List By}, b.Pairwise (· < ·) → (b.filter fun q => decide (q = n)) = if n ∈ b then [n] else []
  | [], _ => rfl
  | s :: b, h => by
    rw [List.pairwise_cons] at h
    by_cases e : s = n
    · subst e
      rw [List.filter_cons_of_pos (by simp), if_pos (by simp), filter_eq_one h.2, if_neg]
      intro hm
      exact List.lt_irrefl _ (h.1 _ hm)
    · rw [List.filter_cons_of_neg (by simpa using e), filter_eq_one h.2]
      have : (n ∈ s :: b) ↔ n ∈ b := by
        rw [List.mem_cons]
        exact ⟨fun h => h.resolve_left (fun e' => e e'.symm), Or.inr⟩
      simp only [this]
theorem byR_is {b : List By} (h : b.Pairwise (· < ·)) : ∀ (l : List Lb), byR b l = byF b l
  | [] => rfl
  | x :: l => by
    have ih := byR_is h l
    unfold byR byF at ih ⊢
    rw [List.flatMap_cons, ih]
    unfold byR1
    rw [filter_eq_one h]
    by_cases hm : x.nm ∈ b
    · rw [if_pos hm, List.filter_cons_of_pos (by simpa using hm)]
      rfl
    · rw [if_neg hm, List.filter_cons_of_neg (by simpa using hm)]
      rfl
theorem put_gd {f : Int → Int → Int} {r : Rw} (hr : labelF r.1 = 0) : ∀ {U : List Rw}, Gd U → Gd (putP f r U)
  | [], _ => fun x hx => by
    have : x = r := by simpa [putP] using hx
    rw [this]; exact hr
  | y :: U, h => fun x hx => by
    rw [putP] at hx
    split at hx
    · rcases List.mem_cons.1 hx with e | hx
      · rw [e]; exact h y (by simp)
      · exact h x (by simp [hx])
    · rcases List.mem_cons.1 hx with e | hx
      · rw [e]; exact h y (by simp)
      · exact put_gd hr (fun z hz => h z (by simp [hz])) x hx
theorem puts_gd {f : Int → Int → Int} : ∀ {R U : List Rw}, Gd R → Gd U → Gd (R.foldl (fun o r => putP f r o) U)
  | [], _, _, h => h
  | r :: R, U, h1, h2 => puts_gd (R := R) (fun x hx => h1 x (by simp [hx])) (put_gd (h1 r (by simp)) h2)
theorem puts_len {f : Int → Int → Int} : ∀ (R U : List Rw), (R.foldl (fun o r => putP f r o) U).length ≤ R.length + U.length
  | [], U => by simp
  | r :: R, U => by
    have h1 := puts_len (f := f) R (putP f r U)
    have h2 := putP_len (f := f) (r := r) U
    rw [List.foldl_cons, List.length_cons]
    omega
theorem grp_one {n : Nat} {k : Int} {b : List By} {S : List Rw} (hb : b.Pairwise (· < ·)) (h : Fine n S) : grpR k b S = srtR (grpF k b S) ∧ Fine n (srtR (grpF k b S)) := by
  have e1 : grpF k b S = (S.map (grR k b)).foldl (fun o r => putP (opK k) r o) [] := by
    unfold grpF
    rw [List.foldl_map]
  have e2 : grpR k b S = (S.map (grR k b)).foldl (fun o r => moreF (opK k) r o) [] := by
    unfold grpR
    rw [List.foldl_map]
    have : (fun (o : List Rw) (y : Rw) => moreF (opK k) (gdR k b y) o) = fun o y => moreF (opK k) (grR k b y) o := by
      funext o y
      unfold gdR grR
      rw [byR_is hb]
    rw [this]
  obtain ⟨h1, h2⟩ := sort_fold (f := opK k) (S.map (grR k b))
  rw [e1, e2]
  refine ⟨h1.symm, ⟨by rw [h1]; exact h2, srt_gd (puts_gd (fun x hx => ?_) (fun x hx => by simp at hx)), ?_⟩⟩
  · obtain ⟨y, hy, rfl⟩ := List.mem_map.1 hx
    exact label_filter _ (h.gd y hy)
  · rw [srtR_len]
    have h3 := puts_len (f := opK k) (S.map (grR k b)) []
    have h4 := h.len
    rw [List.length_map] at h3
    simp at h3
    omega
theorem prP_prR {k : Int} {a b : Bool} {y z : Rw} (hy : labelF y.1 = 0) (hz : labelF z.1 = 0) : prP k a b y z = prR k a b y z := by
  unfold prP prR
  split
  · rfl
  · split
    · rfl
    · split
      · rename_i h
        rw [ky_inj hy hz h]
      · rfl
theorem prP_lab {k : Int} {a b : Bool} {y z r : Rw} (h : prP k a b y z = some r) : (b = true ∧ r.1 = y.1) ∨ (b = false ∧ a = true ∧ r.1 = z.1) ∨ (b = false ∧ a = false ∧ r.1 = y.1 ∧ kyL y.1 = kyL z.1) := by
  unfold prP at h
  split at h
  · rename_i h1; simp at h; exact Or.inl ⟨h1, by rw [← h]⟩
  · rename_i h1
    split at h
    · rename_i h2; simp at h; exact Or.inr (Or.inl ⟨by simpa using h1, h2, by rw [← h]⟩)
    · rename_i h2
      split at h
      · rename_i h3; simp at h; exact Or.inr (Or.inr ⟨by simpa using h1, by simpa using h2, by rw [← h], h3⟩)
      · simp at h
theorem aloneS_is {S : List Rw} (h : aloneS S = true) : ∃ x, S = [x] := by
  match S, h with
  | [x], _ => exact ⟨x, rfl⟩
theorem prs_gd {k : Int} {L M : List Rw} (hL : Gd L) (hM : Gd M) : Gd (prsF k L M) := by
  intro r hr
  obtain ⟨y, hy, hr⟩ := List.mem_flatMap.1 hr
  obtain ⟨z, hz, e⟩ := List.mem_filterMap.1 hr
  rcases prP_lab e with h | h | h
  · rw [h.2]; exact hL y hy
  · rw [h.2.2]; exact hM z hz
  · rw [h.2.2.1]; exact hL y hy
theorem inner_dst {k : Int} {a b : Bool} {y : Rw} {M : List Rw} (hM : Dst M) (h1 : b = true → ∃ z, M = [z]) : Dst (M.filterMap (prP k a b y)) := by
  unfold Dst
  rw [List.pairwise_filterMap]
  refine List.Pairwise.imp_of_mem ?_ hM
  intro z z' hz hz' hne r hr r' hr' e
  rcases prP_lab hr with h | h | h
  · obtain ⟨q, rfl⟩ := h1 h.1
    have e1 : z = q := by simpa using hz
    have e2 : z' = q := by simpa using hz'
    exact hne (by rw [e1, e2])
  · rcases prP_lab hr' with h' | h' | h'
    · rw [h.1] at h'; simp at h'
    · rw [h.2.2, h'.2.2] at e
      exact hne e
    · rw [h.2.1] at h'; simp at h'
  · rcases prP_lab hr' with h' | h' | h'
    · rw [h.1] at h'; simp at h'
    · rw [h.2.1] at h'; simp at h'
    · exact hne (h.2.2.2.symm.trans h'.2.2.2)
theorem inner_key {k : Int} {a b : Bool} {y r : Rw} {M : List Rw} (h : r ∈ M.filterMap (prP k a b y)) (h2 : a = false ∨ b = true) : r.1 = y.1 := by
  obtain ⟨z, hz, e⟩ := List.mem_filterMap.1 h
  rcases prP_lab e with h | h | h
  · exact h.2
  · rcases h2 with h2 | h2
    · rw [h2] at h; simp at h
    · rw [h2] at h; simp at h
  · exact h.2.2.1
theorem prs_dst {k : Int} {L M : List Rw} (hL : Dst L) (hM : Dst M) : Dst (prsF k L M) := by
  unfold prsF Dst
  rw [List.pairwise_flatMap]
  refine ⟨fun y hy => inner_dst hM aloneS_is, ?_⟩
  refine List.Pairwise.imp_of_mem ?_ hL
  intro y y' hy hy' hne r hr r' hr' e
  by_cases hb : aloneS M = true
  · rw [inner_key hr (Or.inr hb), inner_key hr' (Or.inr hb)] at e
    exact hne e
  · by_cases ha : aloneS L = true
    · obtain ⟨q, rfl⟩ := aloneS_is ha
      have e1 : y = q := by simpa using hy
      have e2 : y' = q := by simpa using hy'
      exact hne (by rw [e1, e2])
    · rw [inner_key hr (Or.inl (by simpa using ha)), inner_key hr' (Or.inl (by simpa using ha))] at e
      exact hne e
theorem flat_le {f : Rw → List Rw} {c : Nat} : ∀ {L : List Rw}, (∀ y ∈ L, (f y).length ≤ c) → (L.flatMap f).length ≤ L.length * c
  | [], _ => by simp
  | y :: L, h => by
    rw [List.flatMap_cons, List.length_append, List.length_cons, Nat.add_mul]
    have h1 := h y (by simp)
    have h2 := flat_le (L := L) (fun z hz => h z (by simp [hz]))
    omega
theorem one_of_dst {l : List Rw} {q : By} (h : Dst l) (hk : ∀ x ∈ l, kyL x.1 = q) : l.length ≤ 1 := by
  match l, h, hk with
  | [], _, _ => simp
  | [x], _, _ => simp
  | x :: y :: t, h, hk =>
    unfold Dst at h
    rw [List.pairwise_cons] at h
    exact absurd ((hk x (by simp)).trans (hk y (by simp)).symm) (h.1 y (by simp))
theorem prs_len {k : Int} {n : Nat} {L M : List Rw} (hL : Fine n L) (hM : Fine n M) : (prsF k L M).length ≤ max 1 n := by
  unfold prsF
  by_cases ha : aloneS L = true ∧ ¬ aloneS M = true
  · obtain ⟨q, rfl⟩ := aloneS_is ha.1
    have h1 : (M.filterMap (prP k (aloneS [q]) (aloneS M) q)).length ≤ M.length := List.length_filterMap_le _ _
    have h2 := hM.len
    simp only [List.flatMap_cons, List.flatMap_nil, List.append_nil]
    omega
  · have h1 := flat_le (f := fun y => M.filterMap (prP k (aloneS L) (aloneS M) y)) (c := 1) (L := L) (fun y hy => one_of_dst (q := kyL y.1) (inner_dst hM.asc.dst aloneS_is) (fun x hx => by
      rw [inner_key hx (by
        by_cases hb : aloneS M = true
        · exact Or.inr hb
        · refine Or.inl ?_
          have : ¬ aloneS L = true := fun h => ha ⟨h, hb⟩
          simpa using this)]))
    have h2 := hL.len
    omega
theorem fm_congr {f g : Rw → Option Rw} : ∀ {l : List Rw}, (∀ z ∈ l, f z = g z) → l.filterMap f = l.filterMap g
  | [], _ => rfl
  | z :: l, h => by
    rw [List.filterMap_cons, List.filterMap_cons, h z (by simp), fm_congr (l := l) (fun y hy => h y (by simp [hy]))]
theorem prsF_R {k : Int} {L M : List Rw} (hL : Gd L) (hM : Gd M) : prsF k L M = prsR k L M := by
  unfold prsF prsR
  have h : ∀ (l : List Rw), (∀ y ∈ l, labelF y.1 = 0) → (l.flatMap fun y => M.filterMap (prP k (aloneS L) (aloneS M) y)) = l.flatMap fun y => M.filterMap (prR k (aloneS L) (aloneS M) y) := by
    intro l hl
    induction l with
    | nil => rfl
    | cons y t ih =>
      rw [List.flatMap_cons, List.flatMap_cons, ih (fun z hz => hl z (by simp [hz]))]
      congr 1
      exact fm_congr fun z hz => prP_prR (hl y (by simp)) (hM z hz)
  exact h L hL
theorem pr_one {n : Nat} {k : Int} {L M : List Rw} (hL : Fine n L) (hM : Fine n M) : (prsR k L M).foldl (fun o r => moreF sec r o) [] = srtR (prsF k L M) ∧ Fine n (srtR (prsF k L M)) := by
  obtain ⟨h1, h2⟩ := sort_dst (prs_dst (k := k) hL.asc.dst hM.asc.dst)
  rw [← prsF_R hL.gd hM.gd]
  exact ⟨h1.symm, ⟨by rw [h1]; exact h2, srt_gd (prs_gd hL.gd hM.gd), by rw [srtR_len]; exact prs_len hL hM⟩⟩
/-- Both ways tell the same, of a right expression and right series. -/
theorem ev_ak {all : List Srs} (h : SrsOk all) (now : Int) : ∀ (m : Nat) (x : Ex), szX x ≤ m → chX x = 0 → akX all now x = evX all now x ∧ Fine all.length (evX all now x)
  | 0, x, hz, _ => by have := szX_pos x; omega
  | m + 1, x, hz, hc => by
    obtain ⟨hb, h1, h2, h3⟩ := chX_ok hc
    have hxs := szX_eq x
    rw [akX_eq, evX_eq]
    obtain ⟨hk, hl⟩ : 0 ≤ prtF x.kd ∧ (x.xs.length : Int) = prtF x.kd := by
      unfold badX at hb
      constructor <;> omega
    unfold akA evA
    by_cases k1 : x.kd = 1
    · rw [if_pos k1, if_pos k1]
      refine ⟨rfl, ⟨List.pairwise_singleton _ _, fun r hr => ?_, ?_⟩⟩
      · have : r = ([], x.n) := by simpa using hr
        rw [this]; rfl
      · simp only [List.length_singleton]; omega
    rw [if_neg k1, if_neg k1]
    by_cases k2 : x.kd = 2
    · rw [if_pos k2, if_pos k2]
      exact sel_one h now x.wd x.ms
    rw [if_neg k2, if_neg k2]
    by_cases k3 : x.kd = 3 ∨ x.kd = 4 ∨ x.kd = 5
    · rw [if_pos k3, if_pos k3]
      have hl1 : x.xs.length = 1 := by
        have : prtF x.kd = 1 := by unfold prtF; rw [if_neg (by omega), if_pos k3]
        omega
      obtain ⟨y, hy⟩ := List.length_eq_one_iff.1 hl1
      rw [hy] at hxs h3 ⊢
      have hy0 : chX y = 0 := chL_at (L := [y]) (k := 0) h3 rfl
      have hys : szX y ≤ m := by have := szX_at (L := [y]) (k := 0) (y := y) rfl; omega
      obtain ⟨e, hf⟩ := ev_ak h now m y hys hy0
      rw [evL_cons, evL_nil, akL_cons, akL_nil, e]
      exact grp_one (by_asc h2) hf
    · rw [if_neg k3, if_neg k3]
      have hl2 : x.xs.length = 2 := by
        have : prtF x.kd = 2 := by
          unfold prtF at hk ⊢
          rw [if_neg (by omega), if_neg k3] at hk ⊢
          split at hk
          · rename_i h5; rw [if_pos h5]
          · omega
        omega
      obtain ⟨y, z, hy⟩ : ∃ y z, x.xs = [y, z] := by
        match x.xs, hl2 with
        | [y, z], _ => exact ⟨y, z, rfl⟩
      rw [hy] at hxs h3 ⊢
      have hy0 : chX y = 0 := chL_at (L := [y, z]) (k := 0) h3 rfl
      have hz0 : chX z = 0 := chL_at (L := [y, z]) (k := 1) h3 rfl
      have hys : szX y ≤ m := by have := szX_at (L := [y, z]) (k := 0) (y := y) rfl; omega
      have hzs : szX z ≤ m := by have := szX_at (L := [y, z]) (k := 1) (y := z) rfl; omega
      obtain ⟨e, hf⟩ := ev_ak h now m y hys hy0
      obtain ⟨e', hf'⟩ := ev_ak h now m z hzs hz0
      rw [evL_cons, evL_cons, evL_nil, akL_cons, akL_cons, akL_nil, e, e']
      exact pr_one hf hf'
end Go.Gh
