/-
  Lists of claims' lists, and the walk of Spread.
-/
import Derived.Test.YtcljeedmiobepaaSpr1
import Derived.Test.YtcljeedmiobepaaBoxes
import Derived.Deep.RegionLaw
import Derived.Laws.Cover1
namespace Go.Proofs.Ytcljeedmiobepaa.Gos
open Go.RowKit Go.Gh Go.Proofs.Ytcljeedmiobepaa.Nod
set_option linter.unusedVariables false
theorem own_other {w w' : World} {B B' k k' n m : Nat} {T T' : TypeId} {v u : Value} {xs ys : List Value} (h1 : w.ownsRow B T k v n xs) (h2 : w.ownsRow B' T' k' u m ys) (hT : T ≠ T') (hg : w.grownBy w' u.ownBlock) : w'.ownsRow B T k v n xs := by
  refine ⟨h1.1, ?_⟩
  rcases h1.2 with h | ⟨g, cap, cur, rfl, hb, hgg, rest⟩
  · exact Or.inl h
  · refine Or.inr ⟨g, cap, cur, rfl, hb, ?_, rest⟩
    have hne := own_block_ne h2 hgg (fun e => hT e.symm)
    rw [hg.block g (Array.getElem?_eq_some_iff.1 hgg).1 (fun e => hne e.symm)]
    exact hgg
theorem infoLs : (Try.prog.info? 22).map (fun i => (i.zero, i.size, i.bytes)) = some (some (.slice none 0 0), 1, 24) := by kernel_rfl
theorem elLs : Elem Try.prog 50 22 1 24 := elem_of Try.underlying50 infoLs rfl (by decide)
/-- An edge. -/
def EdR (w : World) (x : Int × Int) (c : List Value) : Prop := c = [.int .i64 x.1, .int .i64 x.2]
theorem edR_mono : Mono EdR := fun w w' a c h hb => h
/-- A list of claims that came in, of no great bulk. -/
def LsA (w : World) (L : List Cl) (c : List Value) : Prop := ∃ v, c = [v] ∧ Sp ClR 4 w v L ∧ Cl64s L ∧ L.length ≤ 1048576 ∧ ∀ x ∈ L, x.tk.length ≤ 1048576
theorem lsA_mono : Mono LsA := fun w w' a c ⟨v, h1, h2, h3⟩ hb => ⟨v, h1, h2.below clR_mono hb, h3⟩
/-- A list of claims of the call's own. -/
def LsB (B : Nat) (w : World) (L : List Cl) (c : List Value) : Prop := ∃ v, c = [v] ∧ Ow (ClB 27 B) 4 27 B w v L ∧ Cl64s L
theorem lsB_mono {B : Nat} : Mono (LsB B) := fun w w' a c ⟨v, h1, h2, h3⟩ hb => ⟨v, h1, h2.below clB_mono hb, h3⟩
theorem lsB_grow {k B B' : Nat} : Grow (LsB B) 22 k B' := fun w w' a c u m us ⟨v, h1, ⟨P, p1, p2, p3, p4⟩, h3⟩ ho hg =>
  ⟨v, h1, ⟨P, p1, p2, fun q hq => (clB_grow (T := 22) (k := k) (B := B') (by decide)) _ _ _ _ _ _ _ (p3 q hq) ho hg, own_other p4 ho (by decide) hg⟩, h3⟩
theorem lsB_one {B : Nat} {w : World} {L : List Cl} {c : List Value} (h : LsB B w L c) : c.length = 1 := by obtain ⟨v, rfl, _⟩ := h; rfl
/-- A list is written over. -/
theorem lsrow_set {w : World} {B g c n f : Nat} {S : List (List Cl)} {m : List Cl} {u : Value} (h : Ow (LsB B) 1 22 B w (.slice (some ⟨g, 0, none⟩) n c) S) (hS : S.length = n) (hf : f < n) (hm : LsB B w m [u]) :
    Ow (LsB B) 1 22 B (w.setCell ⟨g, f, none⟩ u) (.slice (some ⟨g, 0, none⟩) n c) (S.set f m) := by
  obtain ⟨P, h1, h2, h3, h4⟩ := h
  rw [hS] at h4
  have hpl : P.length = n := by rw [← hS, ← h1, List.length_map]
  have h5 := own_over h4 h2 (i := f) (a := m) (c := [u]) (by omega) rfl
  rw [Nat.mul_one] at h5
  have hgr : w.grownBy (w.setCell ⟨g, f, none⟩ u) (some g) := grown_setCell ⟨rfl, rfl, rfl, Nat.le_refl _, fun _ _ _ => rfl⟩ _ _
  refine ⟨P.set f (m, [u]), by rw [map_set, h1], h2.set rfl f, ?_, by rw [List.length_set, hS]; exact h5⟩
  exact all_set (Q := fun p => LsB B (w.setCell ⟨g, f, none⟩ u) p.1 p.2) (fun p hp => lsB_grow _ _ _ _ _ _ _ (h3 p hp) h4 hgr) (lsB_grow _ _ _ _ _ _ _ hm h4 hgr) f
theorem lsrow_at {w : World} {B g c n f : Nat} {S : List (List Cl)} (h : Ow (LsB B) 1 22 B w (.slice (some ⟨g, 0, none⟩) n c) S) (hS : S.length = n) (hf : f < n) :
    ∃ v, w.cell? ⟨g, f, none⟩ = some v ∧ w.frozen? ⟨g, f, none⟩ = false ∧ Ow (ClB 27 B) 4 27 B w v (S.getD f []) ∧ Cl64s (S.getD f []) := by
  obtain ⟨P, h1, h2, h3, h4⟩ := h
  rw [hS] at h4
  have hx : S[f]? = some (S.getD f []) := by
    rw [List.getD_eq_getElem?_getD, List.getElem?_eq_getElem (by omega)]
    rfl
  obtain ⟨cs, hp⟩ := pair_at h1 hx
  obtain ⟨v, e1, e2, e3⟩ := h3 _ (List.mem_of_getElem? hp)
  dsimp only at e1 e2 e3
  subst e1
  obtain ⟨hc, hf'⟩ := own_el h4 h2 hp hf
  have c0 := hc 0 _ rfl
  have f0 := hf' 0
  rw [Nat.mul_one, Nat.add_zero] at c0 f0
  exact ⟨v, c0, f0, e2, e3⟩
def edB (n : Nat) (x : Int × Int) : Bool := decide (x.1 < 0) || decide ((n : Int) ≤ x.1) || decide (x.2 < 0) || decide ((n : Int) ≤ x.2)
theorem edB_ok {n : Nat} {x : Int × Int} (h : edB n x = false) : 0 ≤ x.1 ∧ x.1 < n ∧ 0 ≤ x.2 ∧ x.2 < n := by
  unfold edB at h
  simp only [Bool.or_eq_false_iff, decide_eq_false_iff_not] at h
  omega
noncomputable def spGo : List (List Cl) → List (Int × Int) → List (List Cl) × Int
  | S, [] => (S, 0)
  | S, x :: r => if (clMerge (S.getD x.1.toNat []) (S.getD x.2.toNat [])).2 = 0 then
      spGo ((S.set x.1.toNat (mrgC (S.getD x.1.toNat []) (S.getD x.2.toNat []))).set x.2.toNat (mrgC (S.getD x.1.toNat []) (S.getD x.2.toNat []))) r
    else ([], (clMerge (S.getD x.1.toNat []) (S.getD x.2.toNat [])).2)
theorem spGo_stop {S : List (List Cl)} {x : Int × Int} {r : List (Int × Int)} (h : (clMerge (S.getD x.1.toNat []) (S.getD x.2.toNat [])).2 ≠ 0) : spGo S (x :: r) = ([], (clMerge (S.getD x.1.toNat []) (S.getD x.2.toNat [])).2) := by
  rw [spGo, if_neg h]
theorem spGo_on {S : List (List Cl)} {x : Int × Int} {r : List (Int × Int)} (h : (clMerge (S.getD x.1.toNat []) (S.getD x.2.toNat [])).2 = 0) : spGo S (x :: r) = spGo ((S.set x.1.toNat (mrgC (S.getD x.1.toNat []) (S.getD x.2.toNat []))).set x.2.toNat (mrgC (S.getD x.1.toNat []) (S.getD x.2.toNat []))) r := by
  rw [spGo, if_pos h]
theorem drop_at' {α : Type} {l : List α} {k : Nat} {x : α} (h : l[k]? = some x) : l.drop k = x :: l.drop (k + 1) := by
  obtain ⟨h1, h2⟩ := List.getElem?_eq_some_iff.1 h
  rw [List.drop_eq_getElem_cons h1, h2]
theorem mem_mrgG {α : Type} {k : α → Int} {both : α → α → α} (hb : ∀ x y, both x y = x ∨ both x y = y) (n : Nat) : ∀ (a b : List α), a.length + b.length ≤ n → ∀ z ∈ mrgG k both a b, z ∈ a ∨ z ∈ b := by
  induction n with
  | zero =>
    intro a b hn z hz
    obtain rfl : a = [] := List.length_eq_zero_iff.1 (by omega)
    rw [mrgG_nil'] at hz
    exact Or.inr hz
  | succ n ih =>
    intro a b hn z hz
    match a, b with
    | [], b => rw [mrgG_nil'] at hz; exact Or.inr hz
    | x :: a, [] => rw [mrgG_nil] at hz; exact Or.inl hz
    | x :: a, y :: b =>
      simp only [List.length_cons] at hn
      rcases Int.lt_trichotomy (k x) (k y) with h | h | h
      · rw [mrgG_lt h] at hz
        rcases List.mem_cons.1 hz with rfl | hz
        · exact Or.inl (by simp)
        · rcases ih a (y :: b) (by simp only [List.length_cons]; omega) z hz with h' | h'
          · exact Or.inl (by simp [h'])
          · exact Or.inr h'
      · rw [mrgG_eq h] at hz
        rcases List.mem_cons.1 hz with rfl | hz
        · rcases hb x y with h' | h' <;> rw [h'] <;> simp
        · rcases ih a b (by omega) z hz with h' | h'
          · exact Or.inl (by simp [h'])
          · exact Or.inr (by simp [h'])
      · rw [mrgG_gt h] at hz
        rcases List.mem_cons.1 hz with rfl | hz
        · exact Or.inr (by simp)
        · rcases ih (x :: a) b (by simp only [List.length_cons]; omega) z hz with h' | h'
          · exact Or.inl h'
          · exact Or.inr (by simp [h'])
theorem newC_or (x y : Cl) : newC x y = x ∨ newC x y = y := by
  unfold newC
  split <;> simp
theorem cl64_mrg {a b : List Cl} (ha : Cl64s a) (hb : Cl64s b) : Cl64s (mrgC a b) := by
  intro z hz
  rcases mem_mrgG newC_or _ a b (Nat.le_refl _) z hz with h | h
  · exact ha z h
  · exact hb z h
def SwF (w' : World) (B : Nat) (a b : List Cl) (va vb : Value) (g : Int) : Prop :=
  ((clMerge a b).2 ≠ 0 ∧ g = (clMerge a b).2 ∧ va = .slice none 0 0 ∧ vb = .slice none 0 0) ∨
    ((clMerge a b).2 = 0 ∧ g = 0 ∧ Ow (ClB 27 B) 4 27 B w' va (mrgC a b) ∧ Ow (ClB 27 B) 4 27 B w' vb (mrgC a b))
theorem sw_of {w w' : World} {a b : List Cl} {e : Ending} (h : SwPost w a b e w') : Below w.heap.size w w' ∧ ∃ xo xn xc yo yn yc g, e = .returned (.tuple #[.slice xo xn xc, .slice yo yn yc, .int .i64 g]) ∧ SwF w' w.heap.size a b (.slice xo xn xc) (.slice yo yn yc) g := by
  obtain ⟨hb, h⟩ := h
  refine ⟨hb, ?_⟩
  rcases h with ⟨h1, rfl⟩ | ⟨h1, va, vb, rfl, h2, h3⟩
  · exact ⟨none, 0, 0, none, 0, 0, _, rfl, Or.inl ⟨h1, rfl, rfl, rfl⟩⟩
  · obtain ⟨xo, xc, rfl, _⟩ := h2.shape
    obtain ⟨yo, yc, rfl, _⟩ := h3.shape
    exact ⟨xo, _, xc, yo, _, yc, 0, rfl, Or.inr ⟨by rw [h1], rfl, h2, h3⟩⟩
theorem take_at' {α : Type} {L : List α} {k : Nat} {x : α} (h : L[k]? = some x) : L.take (k + 1) = L.take k ++ [x] := by
  obtain ⟨h1, h2⟩ := List.getElem?_eq_some_iff.1 h
  rw [List.take_succ_eq_append_getElem h1, h2]
def SpPost (w : World) (A : List (List Cl)) (l : List (Int × Int)) (e : Ending) (w' : World) : Prop :=
  Below w.heap.size w w' ∧ ((20 < A.length ∧ e = .returned (.tuple #[.slice none 0 0, .int .i64 1])) ∨
    (¬ 20 < A.length ∧ (∃ (k : Nat) (x : Int × Int), l[k]? = some x ∧ edB A.length x = true ∧ ∀ (i : Nat) (y : Int × Int), i < k → l[i]? = some y → edB A.length y = false) ∧ e = .returned (.tuple #[.slice none 0 0, .int .i64 6])) ∨
    (¬ 20 < A.length ∧ (∀ (i : Nat) (x : Int × Int), l[i]? = some x → edB A.length x = false) ∧ (((spGo A l).2 ≠ 0 ∧ e = .returned (.tuple #[.slice none 0 0, .int .i64 (spGo A l).2])) ∨
      ∃ v S, spGo A l = (S, 0) ∧ S.length = A.length ∧ e = .returned (.tuple #[v, .int .i64 0]) ∧ Ow (LsB w.heap.size) 1 22 w.heap.size w' v S)))
set_option maxHeartbeats 8000000 in
set_option maxRecDepth 100000 in
theorem spread_any (v u : Value) (A : List (List Cl)) (l : List (Int × Int)) (w : World) (hs : Sp LsA 1 w v A) (ht : Sp EdR 2 w u l) :
    Calls Try.prog 28 #[v, u] w (SpPost w A l) := by
  obtain ⟨ao, c, rfl, hnc, hc⟩ := hs.shape
  obtain ⟨bo, d, rfl, hod, hd⟩ := ht.shape
  obtain ⟨n, hn⟩ : ∃ n, A.length = n := ⟨_, rfl⟩
  obtain ⟨m, hm⟩ : ∃ m, l.length = m := ⟨_, rfl⟩
  rw [hn] at hs hnc ⊢
  rw [hm] at ht hod ⊢
  have HN := Lib.hid hn
  have HM := Lib.hid hm
  have HS := Lib.hid hs
  have HT := Lib.hid ht
  clear hn hm hs ht
  go_enter Try.func28, Try.ntmps28
  by_cases hbig : 20 < n
  · have HBIG := Lib.hid hbig
    go_wp2_with fail
    go_ret2
    exact ⟨Below.refl _ _, Or.inl ⟨by rw [HN.out]; exact hbig, rfl⟩⟩
  go_wp2_with fail
  go_loopw [23] (fun i wr => ∃ k : Nat, k ≤ m ∧ i = .int .i64 k ∧ Hid (∀ (i : Nat) (x : Int × Int), i < k → l[i]? = some x → edB n x = false) ∧ Below w.heap.size w wr) (fun i _ => m - (intOf i).toNat)
  case atStart => exact ⟨0, by omega, rfl, Lib.hid (fun i x hi => absurd hi (by omega)), Below.refl _ _⟩
  case round =>
    obtain ⟨k, hk, rfl, HOK, hbel⟩ := hrel
    have hsz := hbel.size
    by_cases hlt : k < m
    · obtain ⟨x, hx⟩ : ∃ x, l[k]? = some x := ⟨_, List.getElem?_eq_getElem (by rw [HM.out]; exact hlt)⟩
      obtain ⟨b, off, cs, rfl, rfl, _, hck⟩ := (HT.out.below edR_mono hbel).get hx
      have c0 := hck 0 _ rfl
      have c1 := hck 1 _ rfl
      rw [Nat.add_zero] at c0
      have HX := Lib.hid hx
      obtain ⟨xf, xt⟩ := x
      dsimp only at c0 c1
      clear hck hx
      go_upto_region 7 with (fail)
      obtain ⟨wA, hwA⟩ : ∃ wA, wA = wr.alloc (Obj.cells #[.int .i64 xf, .int .i64 xt] 55) := ⟨_, rfl⟩
      have hbox : wA.heap[wr.heap.size]? = some (.cells #[.int .i64 xf, .int .i64 xt] 55 (0, 0)) := by rw [hwA]; exact heap_alloc_new wr _
      have hbA : Below wr.heap.size wr wA := by rw [hwA]; exact (Below.refl _ _).alloc (Nat.le_refl _) _
      rw [← hwA]
      have HBA := Lib.hid (hbel.trans (hbA.mono hsz))
      obtain ⟨⟨d0, d1⟩, -⟩ := bx2 hbox
      generalize wr.heap.size = bx at *
      clear hwA hbox hbA c0 c1
      obtain ⟨D, hD⟩ : ∃ D, edB n (xf, xt) = D := ⟨_, rfl⟩
      have HD := Lib.hid hD
      go_cut [46] (fun t wx => t = .bool D ∧ Below wA.heap.size wA wx)
      case first =>
        unfold edB at hD
        dsimp only at hD
        by_cases h1 : xf < 0
        · have h1' : decide (xf < 0) = true := decide_eq_true h1
          rw [h1'] at hD
          simp at hD
          subst hD
          go_wp2_with fail
          go_meet
          exact ⟨rfl, Below.refl _ _⟩
        by_cases h2 : (n : Int) ≤ xf
        · rw [decide_eq_false h1, decide_eq_true h2] at hD
          simp at hD
          subst hD
          go_wp2_with fail
          go_meet
          exact ⟨rfl, Below.refl _ _⟩
        by_cases h3 : xt < 0
        · rw [decide_eq_false h1, decide_eq_false h2, decide_eq_true h3] at hD
          simp at hD
          subst hD
          go_wp2_with fail
          go_meet
          exact ⟨rfl, Below.refl _ _⟩
        rw [decide_eq_false h1, decide_eq_false h2, decide_eq_false h3] at hD
        simp only [Bool.or_self, Bool.false_or] at hD
        go_wp2_with fail
        go_meet
        exact ⟨rfl, Below.refl _ _⟩
      obtain ⟨rfl, hbc⟩ := hcut
      have hbc2 := HBA.out.trans (hbc.mono HBA.out.size)
      clear hbc hD
      cases D with
      | true =>
        go_wp2_with fail
        go_ret2
        exact ⟨hbc2, Or.inr (Or.inl ⟨by rw [HN.out]; exact hbig, ⟨k, _, HX.out, by rw [HN.out]; exact HD.out, fun i y hi hy => by rw [HN.out]; exact HOK.out i y hi hy⟩, rfl⟩)⟩
      | false =>
        have HOK2 : Hid (∀ (i : Nat) (x : Int × Int), i < k + 1 → l[i]? = some x → edB n x = false) := Lib.hid (fun i y hi hy => by
          rcases Nat.lt_or_ge i k with h | h
          · exact HOK.out i y h hy
          · obtain rfl : i = k := by omega
            have := HX.out
            rw [this] at hy
            obtain rfl := Option.some.inj hy
            exact HD.out)
        go_wp2_with fail
        go_roundw
        case rel => exact ⟨k + 1, by omega, by go_num, HOK2, hbc2⟩
        case measure => simp [intOf]; omega
    obtain rfl : k = m := by omega
    have HOKA : Hid (∀ (i : Nat) (x : Int × Int), l[i]? = some x → edB n x = false) := Lib.hid (fun i x hx => HOK.out i x (by have := (List.getElem?_eq_some_iff.1 hx).1; have := HM.out; omega) hx)
    clear HOK
    go_wp2_with fail
    go_loopw [9, 50] (fun r i wq => ∃ j : Nat, j ≤ n ∧ i = .int .i64 j ∧ Hid (Ow (LsB w.heap.size) 1 22 w.heap.size wq r (A.take j)) ∧ Below w.heap.size w wq) (fun _ i _ => n - (intOf i).toNat)
    case atStart => exact ⟨0, by omega, rfl, Lib.hid Ow.nil, hbel⟩
    case round =>
      obtain ⟨j, hj, rfl, HO, hbq⟩ := hrel
      have hszq := hbq.size
      by_cases hlt : j < n
      · obtain ⟨x, hx⟩ : ∃ x, A[j]? = some x := ⟨_, List.getElem?_eq_getElem (by rw [HN.out]; exact hlt)⟩
        obtain ⟨b, off, cs, rfl, ⟨v0, rfl, hv0, hv64, hvl, hvt⟩, _, hck⟩ := (HS.out.below lsA_mono hbq).get hx
        have c0 := hck 0 _ rfl
        rw [Nat.mul_one, Nat.add_zero] at c0
        have HX := Lib.hid hx
        have HV64 := Lib.hid hv64
        have htl : (A.take j).length = j := by rw [List.length_take, HN.out]; omega
        have htk : A.take (j + 1) = A.take j ++ [x] := take_at' hx
        have HTK := Lib.hid htk
        have HTL := Lib.hid htl
        obtain ⟨uo, uc, rfl, hu1, hu2⟩ := Sp.shapeN HO.out.sp htl
        obtain ⟨yo, yc, rfl, -, -⟩ := hv0.shape
        have HV0 := Lib.hid hv0
        clear hck hx htl htk hv64 hv0
        go_wp2_with fail
        refine (gown_any _ x _ HV0.out (by omega) (fun z hz => Nat.le_trans (hvt z hz) (by decide))).mono ?_
        rintro e w1 ⟨v1, rfl, hown1, hb1⟩
        have HO1 := Lib.hid (HO.out.below lsB_mono hb1)
        have HB1 := Lib.hid (hbq.trans (hb1.mono hszq))
        have HNW : Hid (Ow (ClB 27 w.heap.size) 4 27 w.heap.size w1 v1 x) := Lib.hid (hown1.mono hszq)
        obtain ⟨zo, zc, rfl, -, -⟩ := hown1.shape
        obtain ⟨P, hP1, hP2, hP3, hP4⟩ := HO1.out
        rw [HTL.out] at hP4
        clear hown1 hb1 HO HO1
        go_wp2_with (at_builtin; refine append1 [.slice zo x.length zc] elLs rfl _ _ rfl hP4 HB1.out HB1.out.size rfl rfl rfl (by intro x hx; simp at hx; rcases hx with rfl; rfl) ?c4 ?c5 ?_)
        case c4 => omega
        case c5 => omega
        intro v7 w7 hown7 hbel7 hgr7
        have HON : Hid (Ow (LsB w.heap.size) 1 22 w.heap.size w7 v7 (A.take (j + 1))) := Lib.hid (by
          rw [HTK.out]
          exact Ow.snoc lsB_grow hP1 hP2 hP3 hP4 HTL.out.symm hgr7 hown7 rfl ⟨_, rfl, HNW.out, HV64.out⟩)
        clear hown7 hgr7 hP1 hP2 hP3 hP4
        go_wp2_with fail
        go_roundw
        case rel => exact ⟨j + 1, by omega, by go_num, HON, hbel7⟩
        case measure => simp [intOf]; omega
      obtain rfl : j = n := by omega
      have hta : A.take j = A := List.take_of_length_le (by rw [HN.out]; exact Nat.le_refl _)
      rw [hta] at HO
      obtain ⟨uo, uc, rfl, hu1, hu2⟩ := Sp.shapeN HO.out.sp HN.out
      clear hta
      have HOL := Lib.hid HO.out
      go_wp2_with fail
      go_loopw [62] (fun i w3 => ∃ (q : Nat) (S : List (List Cl)), q ≤ k ∧ i = .int .i64 q ∧ Hid (spGo A l = spGo S (l.drop q)) ∧ Hid (S.length = j) ∧ Hid (Ow (LsB w.heap.size) 1 22 w.heap.size w3 (.slice uo j uc) S) ∧ Below w.heap.size w w3) (fun i _ => k - (intOf i).toNat)
      case atStart => exact ⟨0, A, by omega, rfl, Lib.hid (by rw [List.drop_zero]), HN, HOL, hbq⟩
      case round =>
        obtain ⟨q, S, hq, rfl, HG, HSL, HR, hb3⟩ := hrel
        have hsz3 := hb3.size
        by_cases hlt : q < k
        case neg =>
          obtain rfl : q = k := by omega
          have HEND : Hid (spGo A l = (S, 0)) := Lib.hid (by rw [HG.out, List.drop_of_length_le (by rw [HM.out]; exact Nat.le_refl _), spGo])
          go_wp2_with fail
          go_ret2
          exact ⟨hb3, Or.inr (Or.inr ⟨by rw [HN.out]; exact hbig, fun i x hx => by rw [HN.out]; exact HOKA.out i x hx, Or.inr ⟨_, S, HEND.out, by rw [HSL.out, HN.out], rfl, HR.out⟩⟩)⟩
        obtain ⟨x, hx⟩ : ∃ x, l[q]? = some x := ⟨_, List.getElem?_eq_getElem (by rw [HM.out]; exact hlt)⟩
        obtain ⟨b, off, cs, rfl, rfl, _, hck⟩ := (HT.out.below edR_mono hb3).get hx
        have c0 := hck 0 _ rfl
        have c1 := hck 1 _ rfl
        rw [Nat.add_zero] at c0
        obtain ⟨xf, xt⟩ := x
        dsimp only at c0 c1
        obtain ⟨hf0, hf1, ht0, ht1⟩ := edB_ok (HOKA.out q _ hx)
        dsimp only at hf0 hf1 ht0 ht1
        obtain ⟨f, rfl⟩ : ∃ f : Nat, xf = f := ⟨xf.toNat, by omega⟩
        obtain ⟨t, rfl⟩ : ∃ t : Nat, xt = t := ⟨xt.toNat, by omega⟩
        have hfj : f < j := by omega
        have htj : t < j := by omega
        have hG1 := HG.out
        rw [drop_at' hx] at hG1
        have HG1 := Lib.hid hG1
        obtain ⟨P3, hP1, hP2, hP3, hP4⟩ := HR.out
        rw [HSL.out] at hP4
        obtain ⟨g, cap, e1, hg1, hg2, hg3, hg4, -⟩ := own_some hP4 (by omega)
        simp at e1
        obtain ⟨rfl, rfl⟩ := e1
        clear hck hx hG1 hP1 hP2 hP3 hP4 hf0 hf1 ht0 ht1
        go_upto_region 19 with (fail)
        obtain ⟨wA, hwA⟩ : ∃ wA, wA = wr.alloc (Obj.cells #[.int .i64 (f : Int), .int .i64 (t : Int)] 55) := ⟨_, rfl⟩
        have hbox : wA.heap[wr.heap.size]? = some (.cells #[.int .i64 (f : Int), .int .i64 (t : Int)] 55 (0, 0)) := by rw [hwA]; exact heap_alloc_new wr _
        have hbA : Below wr.heap.size wr wA := by rw [hwA]; exact (Below.refl _ _).alloc (Nat.le_refl _) _
        rw [← hwA]
        have HBA := Lib.hid (hb3.trans (hbA.mono hsz3))
        have HRA := Lib.hid (HR.out.below lsB_mono hbA)
        have hszA := HBA.out.size
        obtain ⟨bx, hbx⟩ : ∃ bx, wr.heap.size = bx := ⟨_, rfl⟩
        rw [hbx] at hbox hg2 ⊢
        have HBX := Lib.hid hbox
        have hbl : bx < wA.heap.size := (Array.getElem?_eq_some_iff.1 hbox).1
        obtain ⟨⟨d0, d1⟩, -⟩ := bx2 hbox
        obtain ⟨va, a0, -, hao, ha64⟩ := lsrow_at HRA.out HSL.out hfj
        obtain ⟨vb, b0, -, hbo, hb64⟩ := lsrow_at HRA.out HSL.out htj
        obtain ⟨a, ha⟩ : ∃ a, S.getD f [] = a := ⟨_, rfl⟩
        obtain ⟨a', ha'⟩ : ∃ a', S.getD t [] = a' := ⟨_, rfl⟩
        rw [ha] at hao ha64
        rw [ha'] at hbo hb64
        have HA1 : Hid (∀ W, Below wA.heap.size wA W → Sp ClR 4 W va a) := Lib.hid (fun W h => Sp.weaken (hao.below clB_mono h).sp (fun a c h => clB_clR a c h))
        have HA2 : Hid (∀ W, Below wA.heap.size wA W → Sp ClR 4 W vb a') := Lib.hid (fun W h => Sp.weaken (hbo.below clB_mono h).sp (fun a c h => clB_clR a c h))
        have HA3 := Lib.hid ha64
        have HA4 := Lib.hid hb64
        have HS1 := Lib.hid ha
        have HS2 := Lib.hid ha'
        obtain ⟨ya, yc, rfl, -, -⟩ := hao.shape
        obtain ⟨za, zc, rfl, -, -⟩ := hbo.shape
        have HBD : Hid (∀ W, Below wA.heap.size wA W → W.cell? ⟨bx, 0, none⟩ = some (.int .i64 (f : Int)) ∧ W.cell? ⟨bx, 1, none⟩ = some (.int .i64 (t : Int)) ∧ W.cell? ⟨g, f, none⟩ = some (.slice ya a.length yc) ∧ W.cell? ⟨g, t, none⟩ = some (.slice za a'.length zc)) := Lib.hid (fun W h =>
          ⟨(h.cell (p := ⟨bx, 0, none⟩) (cell_lt d0)).trans d0, (h.cell (p := ⟨bx, 1, none⟩) (cell_lt d0)).trans d1, (h.cell (p := ⟨g, f, none⟩) (cell_lt a0)).trans a0, (h.cell (p := ⟨g, t, none⟩) (cell_lt a0)).trans b0⟩)
        have HDr : Hid (Below wA.heap.size wA wA.drew) := Lib.hid (Below.refl _ _).drew
        have z0 := HBD.out _ HDr.out
        clear hwA hbox hbA c0 c1 d0 d1 a0 b0 hao hbo ha64 hb64 ha ha'
        go_region_held3 (fun w' => w'.cell? ⟨bx, 0, none⟩ = some (.int .i64 (f : Int)) ∧ w'.cell? ⟨bx, 1, none⟩ = some (.int .i64 (t : Int)) ∧ w'.cell? ⟨g, f, none⟩ = some (.slice ya a.length yc) ∧ w'.cell? ⟨g, t, none⟩ = some (.slice za a'.length zc)) (first | (with_reducible exact z1) | (with_reducible exact z0) | go_keep) (first
          | (go_at_call 26; refine (swap_any _ _ a a' _ (HA1.out _ HDr.out) (HA2.out _ HDr.out) HA3.out HA4.out).mono ?_; rintro e w4 hsw; obtain ⟨hb4, xo, xn, xc, yo, yn, yd, gg, rfl, hsf⟩ := sw_of hsw; have HSF := Lib.hid hsf; have HB4 : Hid (Below wA.heap.size wA w4) := Lib.hid (HDr.out.trans (hb4.mono HDr.out.size)); have z1 := HBD.out _ HB4.out; clear hb4 hsw hsf))
        all_goals
          have HBW := Lib.hid (HBA.out.trans (HB4.out.mono hszA))
          rcases HSF.out with ⟨k1, k2, k3, k4⟩ | ⟨k1, k2, k3, k4⟩
          · have HST : Hid (spGo A l = ([], gg)) := Lib.hid (by
              rw [HG1.out, spGo_stop (by simp only [Int.toNat_natCast]; rw [HS1.out, HS2.out]; exact k1)]
              simp only [Int.toNat_natCast]
              rw [HS1.out, HS2.out, k2])
            have HNZ : Hid (gg ≠ 0) := Lib.hid (by rw [k2]; exact k1)
            have t1 : (gg != 0) = true := by rw [bne_iff_ne]; exact HNZ.out
            clear k1 k2 k3 k4
            go_wp2_with fail
            go_ret2
            exact ⟨HBW.out, Or.inr (Or.inr ⟨by rw [HN.out]; exact hbig, fun i x hx => by rw [HN.out]; exact HOKA.out i x hx, Or.inl ⟨by rw [HST.out]; exact HNZ.out, by rw [HST.out]; rfl⟩⟩)⟩
          subst k2
          have t1 : ((0 : Int) != 0) = false := rfl
          obtain ⟨M, hM⟩ : ∃ M, mrgC a a' = M := ⟨_, rfl⟩
          have hm64 := cl64_mrg HA3.out HA4.out
          rw [hM] at k3 k4 hm64
          have HGO : Hid (spGo A l = spGo ((S.set f M).set t M) (l.drop (q + 1))) := Lib.hid (by
            rw [HG1.out, spGo_on (by simp only [Int.toNat_natCast]; rw [HS1.out, HS2.out]; exact k1)]
            simp only [Int.toNat_natCast]
            rw [HS1.out, HS2.out, hM])
          have HR4 := HRA.out.below lsB_mono HB4.out
          have k3' : Ow (ClB 27 w.heap.size) 4 27 w.heap.size w4 (.slice xo xn xc) M := k3.mono hszA
          have k4' : Ow (ClB 27 w.heap.size) 4 27 w.heap.size w4 (.slice yo yn yd) M := k4.mono hszA
          have l3 : LsB w.heap.size w4 M [.slice xo xn xc] := ⟨_, rfl, k3', hm64⟩
          have l4 : LsB w.heap.size w4 M [.slice yo yn yd] := ⟨_, rfl, k4', hm64⟩
          have hR5 := lsrow_set HR4 HSL.out hfj l3
          have hl5 : (S.set f M).length = j := by rw [List.length_set]; exact HSL.out
          have hne : bx ≠ g := by omega
          have hgl : g ≠ bx := by omega
          have hx4 := (HB4.out.block bx hbl).trans HBX.out
          have hx5 := row_setCell_other (i := f) (Value.slice xo xn xc) hx4 hne
          have hf4 := (lsrow_at HR4 HSL.out hfj).choose_spec.2.1
          have hf5 := (lsrow_at hR5 hl5 htj).choose_spec.2.1
          obtain ⟨y0, y1, y2, y3⟩ := z1
          have HBW5 := Lib.hid (HBW.out.setCell (p := ⟨g, f, none⟩) hg1 (.slice xo xn xc))
          have HR5 := Lib.hid hR5
          have HL5 := Lib.hid hl5
          have HX5 := Lib.hid hx5
          have HL4 := Lib.hid l4
          have HL3 := Lib.hid l3
          have HR4 := Lib.hid HR4
          clear k1 k3 k4 k3' k4' l3 l4 hR5 hl5 hx4 hx5 hm64 z0
          go_upto_region 23 with (fail)
          obtain ⟨w5, hw5⟩ : ∃ w5, w5 = w4.setCell ⟨g, f, none⟩ (.slice xo xn xc) := ⟨_, rfl⟩
          rw [← hw5] at hf5
          have HW5 := Lib.hid hw5
          have HX5' : Hid (w5.heap[bx]? = some (.cells #[.int .i64 (f : Int), .int .i64 (t : Int)] 55 (0, 0))) := Lib.hid (by rw [hw5]; exact HX5.out)
          have HR5' : Hid (Ow (LsB w.heap.size) 1 22 w.heap.size w5 (.slice (some ⟨g, 0, none⟩) j uc) (S.set f M)) := Lib.hid (by rw [hw5]; exact HR5.out)
          have HBW5' : Hid (Below w.heap.size w w5) := Lib.hid (by rw [hw5]; exact HBW5.out)
          have HL5B : Hid (LsB w.heap.size w5 M [.slice yo yn yd]) := Lib.hid (by
            obtain ⟨P, p1, p2, p3, p4⟩ := HR4.out
            have hgr : w4.grownBy (w4.setCell ⟨g, f, none⟩ (.slice xo xn xc)) (some g) := grown_setCell ⟨rfl, rfl, rfl, Nat.le_refl _, fun _ _ _ => rfl⟩ _ _
            rw [hw5]
            exact lsB_grow _ _ _ _ _ _ _ HL4.out p4 hgr)
          rw [← hw5]
          obtain ⟨⟨d0, d1⟩, -⟩ := bx2 HX5'.out
          obtain ⟨vt, b0, -, -, -⟩ := lsrow_at HR5'.out HL5.out htj
          clear hw5 HX5 HR5 HBW5 y0 y1 y2 y3
          by_cases hft : (f : Int) = (t : Int)
          · have t2 : ((f : Int) != (t : Int)) = false := by rw [hft]; simp
            have HG6 : Hid (spGo A l = spGo (S.set f M) (l.drop (q + 1))) := Lib.hid (by
              have hft' : f = t := by omega
              rw [HGO.out, ← hft', List.set_set])
            clear hft
            go_wp2_with fail
            go_roundw
            case rel => exact ⟨q + 1, _, by omega, by go_num, HG6, HL5, HR5', HBW5'.out⟩
            case measure => simp [intOf]; omega
          · have t2 : ((f : Int) != (t : Int)) = true := by rw [bne_iff_ne]; exact hft
            have HL6 : Hid (((S.set f M).set t M).length = j) := Lib.hid (by rw [List.length_set]; exact HL5.out)
            have HR6 := Lib.hid (lsrow_set HR5'.out HL5.out htj HL5B.out)
            have HBW6 := Lib.hid (HBW5'.out.setCell (p := ⟨g, t, none⟩) hg1 (.slice yo yn yd))
            clear hft
            go_wp2_with fail
            go_roundw
            case rel => exact ⟨q + 1, _, by omega, by go_num, HGO, HL6, HR6, HBW6.out⟩
            case measure => simp [intOf]; omega
end Go.Proofs.Ytcljeedmiobepaa.Gos
