/-
  The walks of slices.Clone at claims and at tokens of any number, and of gossip's own.
-/
import Derived.Test.YtcljeedmiobepaaGos3
import Derived.Test.YtcljeedmiobepaaGen2
namespace Go.Proofs.Ytcljeedmiobepaa.Gos
open Go.RowKit Go.Gh Go.Proofs.Ytcljeedmiobepaa.Nod
set_option linter.unusedVariables false
theorem clone_u64w (v : Value) (n : Nat) (l : List Int) (w : World) (hv : Sl w 1 v n (l.map (Value.int .u64))) (hn : n ≤ 17592186044416) :
    Calls Try.prog 108 #[v] w fun e w' => ∃ v', e = .returned v' ∧ w'.ownsRow w.heap.size 99 1 v' n (l.map (Value.int .u64)) ∧ Below w.heap.size w w' := by
  obtain ⟨ao, c, rfl, hnc, hc, hlen⟩ := hv.shape
  have HN := Lib.hid hn
  clear hn
  cases ao with
  | none =>
    have hn0 : n = 0 := by
      obtain ⟨ao', cap, h1, h2, _, h4, _, h6⟩ := hv
      simp at h1
      have := h4 h1.1.symm
      omega
    subst hn0
    have hl : l = [] := by simpa using hlen
    subst hl
    have he := Lib.run_eql_slice_nil (P := Try.prog) w 23 99 none 0 c 0 0 Try.underlying23
    go_enter Try.func108, Try.ntmps108
    go_wp2_with fail
    go_ret
    exact ⟨_, rfl, World.ownsRow_nil _ _ _ _, Below.refl _ _⟩
  | some a =>
    have he := Lib.run_eql_slice_nil (P := Try.prog) w 23 99 (some a) n c 0 0 Try.underlying23
    have ho := own_build (e := 99) (size := 1) (n := 0) w [] (Nat.le_refl _) rfl (by decide)
    have hs2 := hv.alloc (Obj.cells ([] : List Value).toArray 99)
    clear hlen
    go_enter Try.func108, Try.ntmps108
    go_wp2_with (at_builtin; refine appendS elU64 rfl _ _ rfl ho ((Below.refl _ _).alloc (Nat.le_refl _) _) ?c1 rfl rfl hs2 (ints_one _ _) ?c2 ?c3 ?_)
    case c1 => simp
    case c2 => have := HN.out; omega
    case c3 => have := HN.out; omega
    intro v' w1 hown' hbel' _
    go_wp2
    go_ret
    exact ⟨v', rfl, by simpa using hown', hbel'⟩
theorem clone_cl (v : Value) (n : Nat) (xs : List Value) (w : World) (hv : Sl w 4 v n xs) (h1 : ∀ u ∈ xs, u.oneCell' = true) (hn : n ≤ 1000000000000) :
    Calls Try.prog 160 #[v] w fun e w' => ∃ v', e = .returned v' ∧ w'.ownsRow w.heap.size 27 4 v' n xs ∧ Below w.heap.size w w' := by
  obtain ⟨ao, c, rfl, hnc, hc, hlen⟩ := hv.shape
  have HN := Lib.hid hn
  clear hn
  cases ao with
  | none =>
    have hn0 : n = 0 := by
      obtain ⟨ao', cap, h1, h2, _, h4, _, h6⟩ := hv
      simp at h1
      have := h4 h1.1.symm
      omega
    subst hn0
    have hl : xs = [] := by simpa using hlen
    subst hl
    have he := Lib.run_eql_slice_nil (P := Try.prog) w 22 27 none 0 c 0 0 Try.underlying22
    go_enter Try.func160, Try.ntmps160
    go_wp2_with fail
    go_ret
    exact ⟨_, rfl, World.ownsRow_nil _ _ _ _, Below.refl _ _⟩
  | some a =>
    have he := Lib.run_eql_slice_nil (P := Try.prog) w 22 27 (some a) n c 0 0 Try.underlying22
    have ho := own_build (e := 27) (size := 4) (n := 0) w [] (Nat.le_refl _) rfl (by decide)
    have hs2 := hv.alloc (Obj.cells ([] : List Value).toArray 27)
    clear hlen
    go_enter Try.func160, Try.ntmps160
    go_wp2_with (at_builtin; refine appendS elCl rfl _ _ rfl ho ((Below.refl _ _).alloc (Nat.le_refl _) _) ?c1 rfl rfl hs2 h1 ?c2 ?c3 ?_)
    case c1 => simp
    case c2 => have := HN.out; omega
    case c3 => have := HN.out; omega
    intro v' w1 hown' hbel' _
    go_wp2
    go_ret
    exact ⟨v', rfl, by simpa using hown', hbel'⟩
theorem pc_set1 {α : Type} {k : Nat} : ∀ {P : List (α × List Value)} {i j : Nat} {a : α} {cs : List Value} {u : Value}, PK k P → P[i]? = some (a, cs) → j < k → (pc P).set (i * k + j) u = pc (P.set i (a, cs.set j u))
  | [], i, j, a, cs, u, _, h, _ => by simp at h
  | q :: P, 0, j, a, cs, u, h, hi, hj => by
    have hq : q = (a, cs) := by simpa using hi
    subst hq
    have hl := h (a, cs) (by simp)
    rw [pc_cons, Nat.zero_mul, Nat.zero_add, List.set_append_left _ _ (by rw [hl]; exact hj), List.set_cons_zero, pc_cons]
  | q :: P, i + 1, j, a, cs, u, h, hi, hj => by
    have hq := h q (by simp)
    rw [pc_cons, Nat.succ_mul, List.set_append_right _ _ (by rw [hq]; omega), hq, show i * k + k + j - k = i * k + j from by omega, pc_set1 (fun r hr => h r (by simp [hr])) (by simpa using hi) hj, List.set_cons_succ, pc_cons]
/-- A row of claims, of which the first k have tokens of their own. -/
def OwP (w : World) (n k : Nat) (L : List Cl) (wr : World) (v : Value) (P : List (Cl × List Value)) : Prop :=
  P.map (·.1) = L ∧ PK 4 P ∧ P.length = n ∧ (∀ i q, P[i]? = some q → i < k → ClB 27 w.heap.size wr q.1 q.2) ∧ (∀ i q, P[i]? = some q → k ≤ i → ClR w q.1 q.2) ∧ wr.ownsRow w.heap.size 27 4 v n (pc P)
theorem owP_step {w wr w1 : World} {n k g c : Nat} {L : List Cl} {P : List (Cl × List Value)} {x : Cl} {t t' : Value} (h : OwP w n k L wr (.slice (some ⟨g, 0, none⟩) n c) P) (hP : P[k]? = some (x, [.int .i64 x.ver, .int .i64 x.st, .string x.nm, t])) (hk : k < n) (hg : w.heap.size ≤ g) (hb : Below wr.heap.size wr w1) (ho : w1.ownsRow wr.heap.size 99 1 t' x.tk.length (x.tk.map (Value.int .u64))) (hwf : ∀ z ∈ x.tk, (Lit.int .u64 z).wf = true) :
    OwP w n (k + 1) L (w1.setCell ⟨g, k * 4 + 3, none⟩ t') (.slice (some ⟨g, 0, none⟩) n c) (P.set k (x, [.int .i64 x.ver, .int .i64 x.st, .string x.nm, t'])) := by
  obtain ⟨h1, h2, h3, h4, h5, h6⟩ := h
  have h7 := own_below h6 hb
  have h8 := (h7.stored (k * 4 + 3) t').1
  have hgr : w1.grownBy (w1.setCell ⟨g, k * 4 + 3, none⟩ t') (some g) := grown_setCell ⟨rfl, rfl, rfl, Nat.le_refl _, fun _ _ _ => rfl⟩ _ _
  have hpl : k < P.length := by omega
  rw [pc_set1 h2 hP (by decide)] at h8
  have hgl : g < wr.heap.size := by
    have := (h6.lt g rfl).2
    exact this
  refine ⟨?_, h2.set rfl k, by rw [List.length_set, h3], ?_, ?_, h8⟩
  · rw [map_set, h1]
    have : L[k]? = some x := by rw [← h1, List.getElem?_map, hP]; rfl
    obtain ⟨hlt, he⟩ := List.getElem?_eq_some_iff.1 this
    rw [← he]
    exact List.set_getElem_self hlt
  · intro i q hq hi
    rw [List.getElem?_set] at hq
    by_cases he : k = i
    · rw [if_pos he, if_pos hpl] at hq
      have hq' : q = (x, [.int .i64 x.ver, .int .i64 x.st, .string x.nm, t']) := by simpa using hq.symm
      subst hq'
      have h9 : (w1.setCell ⟨g, k * 4 + 3, none⟩ t').ownsRow wr.heap.size 99 1 t' x.tk.length (x.tk.map (Value.int .u64)) := ownsRow_setCell_other ho (a := ⟨g, k * 4 + 3, none⟩) (fun e' => by have := (ho.lt g e').1; omega) t'
      exact ⟨t', rfl, ⟨own_sl h9, hwf⟩, ApU.own h9⟩
    · rw [if_neg he] at hq
      have h10 := clB_mono _ _ _ _ (h4 i q hq (by omega)) (hb.mono (Nat.le_refl _))
      exact (clB_grow (by decide)) _ _ _ _ _ _ _ h10 h7 hgr
  · intro i q hq hi
    rw [List.getElem?_set_ne (by omega)] at hq
    exact h5 i q hq (by omega)
theorem clR_ones {w : World} {x : Cl} {c : List Value} (h : ClR w x c) : ∀ u ∈ c, u.oneCell' = true := by
  obtain ⟨t, rfl, ht⟩ := h
  intro u hu
  simp at hu
  rcases hu with rfl | rfl | rfl | rfl
  · rfl
  · rfl
  · rfl
  · exact ht.one
set_option maxHeartbeats 4000000 in
set_option maxRecDepth 100000 in
theorem gown_any (v : Value) (L : List Cl) (w : World) (hs : Sp ClR 4 w v L) (hn : L.length ≤ 1000000000000) (ht : ∀ x ∈ L, x.tk.length ≤ 17592186044416) :
    Calls Try.prog 110 #[v] w fun e w' => ∃ v', e = .returned v' ∧ Ow (ClB 27 w.heap.size) 4 27 w.heap.size w' v' L ∧ Below w.heap.size w w' := by
  obtain ⟨ao, c, rfl, hnc, hc⟩ := hs.shape
  obtain ⟨P0, hP1, hP2, hP3, hP4⟩ := hs
  obtain ⟨n, hL⟩ : ∃ n, L.length = n := ⟨_, rfl⟩
  rw [hL] at hP4 hnc hn ⊢
  have HT := Lib.hid ht
  have HL := Lib.hid hL
  have HP0 := Lib.hid (And.intro hP1 (And.intro hP2 (And.intro (show P0.length = n by rw [← hL, ← hP1, List.length_map]) hP3)))
  have h1 : ∀ u ∈ pc P0, u.oneCell' = true := by
    intro u hu
    obtain ⟨q, hq, hu⟩ := List.mem_flatMap.1 hu
    exact clR_ones (hP3 q hq) u hu
  clear ht hL hP1 hP2 hP3
  go_enter Try.func110, Try.ntmps110
  go_wp2_with fail
  refine (clone_cl _ _ (pc P0) _ hP4 h1 hn).mono ?_
  rintro e w1 ⟨v1, rfl, hown1, hb1⟩
  obtain ⟨uo, uc, rfl, -, huc, -⟩ := own_shape hown1
  have HR1 : Hid (OwP w n 0 L w1 (.slice uo n uc) P0) := Lib.hid ⟨HP0.out.1, HP0.out.2.1, HP0.out.2.2.1, fun i q _ hi => absurd hi (by omega), fun i q hq _ => HP0.out.2.2.2 q (List.mem_of_getElem? hq), hown1⟩
  clear hown1 hP4 h1
  go_wp2_with fail
  go_loopw [8] (fun i wr => ∃ (k : Nat) (P : List (Cl × List Value)), k ≤ n ∧ i = .int .i64 k ∧ Hid (OwP w n k L wr (.slice uo n uc) P) ∧ Below w.heap.size w wr) (fun i _ => n - (intOf i).toNat)
  case atStart => exact ⟨0, P0, by omega, rfl, HR1, hb1⟩
  case round =>
    obtain ⟨k, P, hk, rfl, HR, hbel⟩ := hrel
    by_cases hlt : k < n
    case neg =>
      obtain rfl : k = n := by omega
      have HO : Hid (Ow (ClB 27 w.heap.size) 4 27 w.heap.size wr (.slice uo k uc) L) := Lib.hid (by
        obtain ⟨g1, g2, g3, g4, g5, g6⟩ := HR.out
        refine ⟨P, g1, g2, fun q hq => ?_, by rw [HL.out]; exact g6⟩
        obtain ⟨i, hi⟩ := List.mem_iff_getElem?.1 hq
        exact g4 i q hi (by have := (List.getElem?_eq_some_iff.1 hi).1; omega))
      go_wp2_with fail
      go_ret
      exact ⟨_, rfl, HO.out, hbel⟩
    obtain ⟨x, hx⟩ : ∃ x, L[k]? = some x := ⟨_, List.getElem?_eq_getElem (by rw [HL.out]; exact hlt)⟩
    obtain ⟨cs, hp⟩ := pair_at HR.out.1 hx
    have hcl := HR.out.2.2.2.2.1 k _ hp (Nat.le_refl _)
    obtain ⟨t, hcs, htk⟩ := hcl
    dsimp only at hcs htk
    subst hcs
    obtain ⟨g, cap, e1, hg1, hg2, hg3, hg4, -⟩ := own_some HR.out.2.2.2.2.2 (by omega)
    simp at e1
    obtain ⟨rfl, rfl⟩ := e1
    obtain ⟨hcell, hfrz⟩ := own_el HR.out.2.2.2.2.2 HR.out.2.1 hp hlt
    have c3 := hcell 3 _ rfl
    obtain ⟨qo, qc, rfl, htn, htc, -⟩ := htk.1.shape
    have HTK := Lib.hid (htk.below hbel)
    have HP := Lib.hid hp
    have hxl : x.tk.length ≤ 17592186044416 := HT.out x (List.mem_of_getElem? hx)
    clear hcell hfrz htk hp hx
    go_wp2_with fail
    refine (clone_u64w _ _ x.tk _ HTK.out.1 hxl).mono ?_
    rintro e w2 ⟨t', rfl, hown2, hb2⟩
    obtain ⟨ro, rc, rfl, -, -, -⟩ := own_shape hown2
    have HN := Lib.hid (owP_step HR.out HP.out hlt hg1 hb2 hown2 HTK.out.2)
    have HB2 := Lib.hid ((hbel.trans (hb2.mono hbel.size)).setCell (p := ⟨g, k * 4 + 3, none⟩) hg1 (.slice ro x.tk.length rc))
    have d3 := (hb2.cell (p := ⟨g, k * 4 + 3, none⟩) (cell_lt c3)).trans c3
    have f3 := (own_below HR.out.2.2.2.2.2 hb2).frozenAt (k * 4 + 3)
    clear hown2 hb2 c3
    go_wp2_with fail
    go_roundw
    case rel => exact ⟨k + 1, _, by omega, by go_num, HN, HB2.out⟩
    case measure => simp [intOf]; omega
end Go.Proofs.Ytcljeedmiobepaa.Gos
