/-
  slices.SortFunc of rows, of a row of the call's own: by the rows' texts.
-/
import Derived.Test.YtjmplhkdohlbcaaGreatDoorEz3
import Derived.Test.YtjmplhkdohlbcaaGreatDoorEz4
import Derived.Test.YtjmplhkdohlbcaaGreatDoorEz7
import Derived.Test.YtjmplhkdohlbcaaGreatDoorEz9
import Derived.Test.YtjmplhkdohlbcaaGreatDoorEz12
import Derived.Shelf.SlSortCmp.InsertionK
import Derived.Sort.OwnSortedInts
import Derived.Sort.Grow
namespace Go.Proofs.YtjmplhkdohlbcaaGreatDoor.Evl
open Go.RowKit Go.Gh Go.WideShapes Go.Proofs.YtjmplhkdohlbcaaGreatDoor.Lab
set_option linter.unusedVariables false
set_option linter.unusedSimpArgs false
theorem cmpB_neg : ∀ (a b : By), Lib.compareBytes a b < 0 ↔ a < b
  | [], [] => by simp [Lib.compareBytes]
  | [], _ :: _ => by simp [Lib.compareBytes]
  | _ :: _, [] => by simp [Lib.compareBytes]
  | x :: a, y :: b => by
    unfold Lib.compareBytes
    rw [List.cons_lt_cons_iff]
    by_cases h1 : x < y
    · rw [if_pos h1]
      exact ⟨fun _ => Or.inl h1, fun _ => by decide⟩
    · rw [if_neg h1]
      by_cases h2 : y < x
      · rw [if_pos h2]
        refine ⟨fun h => absurd h (by decide), fun h => ?_⟩
        rcases h with h | h
        · exact absurd h h1
        · rw [h.1] at h2
          exact absurd h2 (UInt8.lt_irrefl _)
      · rw [if_neg h2, cmpB_neg a b]
        have e : x = y := UInt8.le_antisymm (UInt8.not_lt.1 h2) (UInt8.not_lt.1 h1)
        exact ⟨fun h => Or.inr ⟨e, h⟩, fun h => h.elim (fun h => absurd h h1) (·.2)⟩
theorem lt_cmpB (a b : By) : ltOf Lib.compareBytes a b = decide (a < b) := by
  unfold ltOf
  rw [decide_eq_decide]
  exact cmpB_neg a b
theorem swoB : Sort.SWO (ltOf Lib.compareBytes) where
  irrefl x := by rw [lt_cmpB]; simp [List.lt_irrefl]
  trans x y z h1 h2 := by
    rw [lt_cmpB, decide_eq_true_eq] at *
    exact List.lt_trans h1 h2
  ntrans x y z h1 h2 := by
    rw [lt_cmpB, decide_eq_false_iff_not] at *
    exact List.not_lt.2 (List.le_trans (List.not_lt.1 h2) (List.not_lt.1 h1))
theorem totB (x y : By) (h1 : ltOf Lib.compareBytes x y = false) (h2 : ltOf Lib.compareBytes y x = false) : x = y := by
  rw [lt_cmpB, decide_eq_false_iff_not] at *
  exact List.le_antisymm (List.not_lt.1 h2) (List.not_lt.1 h1)
set_option maxHeartbeats 4000000 in
set_option maxRecDepth 100000 in
theorem rwcmp_exact (a b : By) (at1 at2 : Option Addr) (m1 c1 m2 c2 : Nat) (z1 z2 : Int) (w : World) : Calls Tryz.prog 84 #[.agg #[.string (mkS a), .slice at1 m1 c1, .int .i64 z1], .agg #[.string (mkS b), .slice at2 m2 c2, .int .i64 z2]] w fun e w' => e = .returned (.int .i64 (Lib.compareBytes a b)) ∧ ∃ q os', w' = Sort.grow (w.drewN q) os' := by
  obtain ⟨C, hC⟩ : ∃ C, Lib.compareBytes a b = C := ⟨_, rfl⟩
  rw [hC]
  have HC := Lib.hid (fun W => YtjmplhkdohlbcaaGreatDoor.strings_Compare (mkS a) (mkS b) W)
  have HE : Hid (Lib.compareBytes (mkS a).data.toList (mkS b).data.toList = C) := Lib.hid hC
  clear hC
  go_enter Tryz.func84, Tryz.ntmps84
  go_upto_region 1 with (fail)
  obtain ⟨wA, hwA⟩ : ∃ wA, wA = (w.alloc (Obj.cells #[.string (mkS a), .slice at1 m1 c1, .int .i64 z1] 98)).alloc (Obj.cells #[.string (mkS b), .slice at2 m2 c2, .int .i64 z2] 98) := ⟨_, rfl⟩
  have hb1 : wA.heap[w.heap.size]? = some (.cells #[.string (mkS a), .slice at1 m1 c1, .int .i64 z1] 98 (0, 0)) := by rw [hwA]; exact two_first w _ _
  have hb2 : wA.heap[w.heap.size + 1]? = some (.cells #[.string (mkS b), .slice at2 m2 c2, .int .i64 z2] 98 (0, 0)) := by rw [hwA]; exact two_second w _ _
  rw [← hwA]
  have a0 := (row_cell 0 _ hb1 rfl).1
  have b0 := (row_cell 0 _ hb2 rfl).1
  have HWA : Hid (wA = Sort.grow w #[Obj.cells #[.string (mkS a), .slice at1 m1 c1, .int .i64 z1] 98, Obj.cells #[.string (mkS b), .slice at2 m2 c2, .int .i64 z2] 98]) := Lib.hid (by rw [hwA]; simp only [Sort.alloc_eq_grow, Sort.grow_grow]; rfl)
  clear hwA hb1 hb2
  generalize hbx : w.heap.size = bx at *
  clear hbx
  go_wp2_with (go_at_call 85; refine (HC.out _).mono ?_; rw [HE.out]; rintro e w2 ⟨rfl, rfl⟩)
  go_ret
  refine ⟨rfl, 0, _, HWA.out⟩
/-! ### Cells by the key -/
abbrev PR := List (Rw × List Value)
def findK (P : PR) (k : By) : Option (Rw × List Value) := P.find? fun p => decide (kyL p.1.1 = k)
def encK (P : PR) (k : By) : List Value := match findK P k with | some p => p.2 | none => [.string (mkS k), .slice none 0 0, .int .i64 0]
theorem findK_key {P : PR} {k : By} {p : Rw × List Value} (h : findK P k = some p) : kyL p.1.1 = k ∧ p ∈ P := by
  unfold findK at h
  exact ⟨by simpa using List.find?_some h, List.mem_of_find?_eq_some h⟩
theorem findK_self : ∀ {P : PR} {p : Rw × List Value}, Dst (P.map (·.1)) → p ∈ P → findK P (kyL p.1.1) = some p
  | q :: P, p, hd, hp => by
    unfold Dst at hd
    rw [List.map_cons, List.pairwise_cons] at hd
    unfold findK
    rcases List.mem_cons.1 hp with e | hp'
    · rw [← e, List.find?_cons_of_pos (by simp)]
    · have h1 : kyL q.1.1 ≠ kyL p.1.1 := hd.1 p.1 (List.mem_map.2 ⟨p, hp', rfl⟩)
      rw [List.find?_cons_of_neg (by simpa using h1)]
      exact findK_self hd.2 hp'
theorem encK_is {B : Nat} {w : World} {P : PR} (hP : ∀ p ∈ P, RwO B w p.1 p.2) (k : By) : ∃ at1 m1 c1 z1, encK P k = [.string (mkS k), .slice at1 m1 c1, .int .i64 z1] := by
  unfold encK
  cases h : findK P k with
  | none => exact ⟨none, 0, 0, 0, rfl⟩
  | some p =>
    obtain ⟨h1, h2⟩ := findK_key h
    obtain ⟨t, h3, h4⟩ := hP p h2
    obtain ⟨ao, c, rfl, -, -⟩ := h4.shape
    exact ⟨ao, _, c, _, by rw [← h1]; exact h3⟩
theorem enc_flat {P : PR} : ∀ (K : List By), (∀ k ∈ K, ∃ p, findK P k = some p) → K.flatMap (encK P) = pc (K.filterMap (findK P))
  | [], _ => rfl
  | k :: K, h => by
    obtain ⟨p, hp⟩ := h k (by simp)
    have e : encK P k = p.2 := by unfold encK; rw [hp]
    rw [List.flatMap_cons, List.filterMap_cons, hp, e, enc_flat K (fun q hq => h q (by simp [hq]))]
    rfl
theorem find_all {P : PR} (hd : Dst (P.map (·.1))) : ∀ (Q : PR), (∀ p ∈ Q, p ∈ P) → (Q.map fun p => kyL p.1.1).filterMap (findK P) = Q
  | [], _ => rfl
  | q :: Q, h => by
    rw [List.map_cons, List.filterMap_cons, findK_self hd (h q (by simp))]
    rw [find_all hd Q (fun p hp => h p (by simp [hp]))]
/-- The row's keys, sorted: the rows, sorted. -/
theorem sorted_rows {P : PR} (hd : Dst (P.map (·.1))) (K' : List By) (hK : K'.Perm (P.map fun p => kyL p.1.1)) (hs : K'.Pairwise fun x y => x ≤ y) :
    (K'.filterMap (findK P)).map (·.1) = srtR (P.map (·.1)) ∧ (K'.filterMap (findK P)).Perm P ∧ K'.flatMap (encK P) = pc (K'.filterMap (findK P)) := by
  have hp : (K'.filterMap (findK P)).Perm P := by
    have := hK.filterMap (findK P)
    rwa [find_all hd P (fun p h => h)] at this
  have hall : ∀ k ∈ K', ∃ p, findK P k = some p := by
    intro k hk
    obtain ⟨p, h1, rfl⟩ := List.mem_map.1 (hK.mem_iff.1 hk)
    exact ⟨p, findK_self hd h1⟩
  have hnd : K'.Pairwise (· ≠ ·) := by
    have h1 : (P.map fun p => kyL p.1.1).Pairwise (· ≠ ·) := by
      have := hd
      unfold Dst at this
      rw [List.pairwise_map] at this ⊢
      exact this
    exact (hK.pairwise_iff (fun h => h.symm)).2 h1
  have hlt : K'.Pairwise fun x y => x < y := (hs.and hnd).imp fun ⟨h1, h2⟩ => by
    rcases by_tri _ _ with h | h | h
    · exact h
    · exact absurd h h2
    · exact absurd h (List.not_lt.2 h1)
  have ha : Asc2 ((K'.filterMap (findK P)).map (·.1)) := by
    unfold Asc2
    rw [List.pairwise_map, List.pairwise_filterMap]
    refine hlt.imp fun h p hp q hq => ?_
    rw [(findK_key hp).1, (findK_key hq).1]
    exact h
  exact ⟨(srtR_is ha (hp.map _)).symm, hp, enc_flat K' hall⟩
/-! ### The sort -/
section
variable {enc : By → List Value}
theorem fm_len (hk : ∀ x, (enc x).length = 3) (l : List By) : (l.flatMap enc).length = l.length * 3 := by
  induction l with
  | nil => rfl
  | cons x l ih => rw [List.flatMap_cons, List.length_append, ih, List.length_cons, hk]; omega
theorem fm_get (hk : ∀ x, (enc x).length = 3) : ∀ (l : List By) (i j : Nat) (x : By), l[i]? = some x → j < 3 → (l.flatMap enc)[i * 3 + j]? = (enc x)[j]?
  | [], i, j, x, h, _ => by simp at h
  | y :: l, 0, j, x, h, hj => by
    simp at h
    subst h
    rw [List.flatMap_cons, Nat.zero_mul, Nat.zero_add, List.getElem?_append_left (by rw [hk]; exact hj)]
  | y :: l, i + 1, j, x, h, hj => by
    have ih := fm_get hk l i j x (by simpa using h) hj
    rw [List.flatMap_cons, List.getElem?_append_right (by rw [hk]; omega)]
    have e : (i + 1) * 3 + j - (enc y).length = i * 3 + j := by rw [hk]; omega
    rw [e, ih]
theorem flat_fm (hk : ∀ x, (enc x).length = 3) (l : List By) : (Sort.flatK enc 3 l.toArray).toList = l.flatMap enc := by
  apply List.ext_getElem?
  intro t
  by_cases ht : t < l.length * 3
  · have hs : t < (Sort.flatK enc 3 l.toArray).size := by simpa using ht
    have h1 : t / 3 < l.length := by omega
    obtain ⟨x, hx⟩ : ∃ x, l[t / 3]? = some x := ⟨_, List.getElem?_eq_getElem h1⟩
    have h2 := fm_get hk l (t / 3) (t % 3) x hx (Nat.mod_lt _ (by decide))
    rw [show t / 3 * 3 + t % 3 = t by omega] at h2
    rw [h2, Array.getElem?_toList, Array.getElem?_eq_getElem hs, ← getElem!_pos _ t hs, Sort.get_flatK _ _ _ _ (by simpa using ht)]
    have h3 : l.toArray[t / 3]! = x := by
      rw [getElem!_pos l.toArray (t / 3) (by simpa using h1)]
      have := (List.getElem?_eq_some_iff.1 hx).2
      simpa using this
    rw [h3]
    have h4 : t % 3 < (enc x).length := by rw [hk]; exact Nat.mod_lt _ (by decide)
    rw [getElem!_pos (enc x) _ h4, List.getElem?_eq_getElem h4]
  · rw [List.getElem?_eq_none (by rw [Array.length_toList, Sort.size_flatK]; simp; omega), List.getElem?_eq_none (by rw [fm_len hk]; omega)]
end
section
variable {w : World} {g n : Nat} {os : Array Obj} {cur : Array Value} {e : TypeId} {fr : Nat × Nat}
theorem holds_of_blockV {F : Array Value} (hb : w.heap[g]? = some (.cells cur e (0, 0))) (ht : cur.toList.take F.size = F.toList) : Sort.Holds id w g 0 F := by
  intro j hj
  refine ⟨?_, by simp [World.frozen?, hb]⟩
  have h1 : (cur.toList.take F.size)[j]? = F.toList[j]? := by rw [ht]
  rw [List.getElem?_take_of_lt hj] at h1
  simp only [World.cell?, hb, Nat.zero_add]
  simp only [Option.isSome_none, Bool.false_eq_true, if_false]
  rw [← Array.getElem?_toList, h1, Array.getElem?_toList, Array.getElem?_eq_getElem hj, ← getElem!_pos F j hj]
  rfl
theorem heap_sortedV (d : Array Value) (hb : w.heap[g]? = some (.cells cur e fr)) :
    (Sort.grow (Sort.putRow id (Sort.ahead w n) g 0 d) os).heap[g]? = some (.cells (Sort.putCells id 0 d cur) e fr) := by
  have hg : g < w.heap.size := (Array.getElem?_eq_some_iff.1 hb).1
  rw [Sort.heap_grow_old _ _ (by simpa using hg)]
  simp [Sort.putRow, Sort.mapBlock, Sort.ahead, Array.getElem?_modify, hb, Sort.onCells]
theorem grownBy_sortedV (d : Array Value) : w.grownBy (Sort.grow (Sort.putRow id (Sort.ahead w n) g 0 d) os) (some g) := by
  refine ⟨rfl, rfl, rfl, by simp, fun k hk hne => ?_⟩
  rw [Sort.heap_grow_old _ _ (by simpa using hk)]
  have : g ≠ k := fun e => hne (by rw [e])
  simp [Sort.putRow, Sort.mapBlock, Sort.ahead, Array.getElem?_modify, this]
theorem take_putCellsV (cur F : Array Value) (h : F.size ≤ cur.size) : (Sort.putCells id 0 F cur).toList.take F.size = F.toList := by
  apply List.ext_getElem?
  intro j
  by_cases hj : j < F.size
  · rw [List.getElem?_take_of_lt hj, Array.getElem?_toList]
    simp [Sort.putCells, hj, show j < cur.size by omega]
  · rw [List.getElem?_take_eq_none (by omega), List.getElem?_eq_none (by simp; omega)]
end
set_option maxHeartbeats 1000000 in
theorem sortR_own (v : Value) (B B0 : Nat) (S : List Rw) (w : World) (h : Ow (RwO B0) 3 98 B w v S) (hd : Dst S) (hn : S.length < 1000000) :
    Calls Tryz.prog 83 #[v, .func (.func 84) #[] #[]] w fun e w' => e = .returned (.tuple #[]) ∧ Ow (RwO B0) 3 98 B w' v (srtR S) ∧ w.grownBy w' v.ownBlock := by
  have eg : ∀ args w, (callFunc 84 args).run Tryz.prog w = .ok (.enter 84 args) w := enters_of Tryz.func84 (by kernel_rfl) rfl
  obtain ⟨P, hP1, hP2, hP3, hrow⟩ := h
  subst hP1
  have hrow0 := hrow
  have hoff := off_row (e' := 75) hrow (by decide)
  rcases hrow.2 with ⟨rfl, hn0⟩ | ⟨g, cap, cur, rfl, hb, hg, hn1, hm, hs, ht⟩
  · have hl : P = [] := List.map_eq_nil_iff.1 (List.length_eq_zero_iff.1 hn0)
    subst hl
    have hcon := AnyF.slices_SortFunc_none YtjmplhkdohlbcaaGreatDoor.laysSortRw none 0 (.func (.func 84) #[] #[]) w
    change Calls Tryz.prog 83 _ _ _ at hcon
    refine hcon.mono ?_
    rintro e w' ⟨rfl, rfl⟩
    exact ⟨rfl, by have e : srtR (([] : PR).map (·.1)) = [] := by simp [srtR]
                   rw [e]; exact Ow.nil, ⟨rfl, rfl, rfl, Nat.le_refl _, fun k _ _ => rfl⟩⟩
  · obtain ⟨K, hK⟩ : ∃ K, K = P.map fun p => kyL p.1.1 := ⟨_, rfl⟩
    have hKl : K.length = P.length := by rw [hK, List.length_map]
    have hk3 : ∀ x, (encK P x).length = 3 := fun x => by
      obtain ⟨a, m, c, z, e⟩ := encK_is hP3 x
      rw [e]; rfl
    have hone : ∀ x, ∀ u ∈ encK P x, u.oneCell' = true := fun x u hu => by
      obtain ⟨a, m, c, z, e⟩ := encK_is hP3 x
      rw [e] at hu
      simp at hu
      rcases hu with rfl | rfl | rfl <;> rfl
    have hfl : K.flatMap (encK P) = pc P := by
      rw [enc_flat K (fun k hk => by
        rw [hK] at hk
        obtain ⟨p, h1, rfl⟩ := List.mem_map.1 hk
        exact ⟨p, findK_self hd h1⟩), hK, find_all hd P (fun p h => h)]
    have hH : Sort.HoldsK (encK P) 3 w g 0 K.toArray := holds_of_blockV hg (by rw [flat_fm hk3, Sort.size_flatK, hfl]; simpa [hKl] using ht)
    have hcmp : CmpLays Tryz.prog 84 #[] (encK P) 3 Lib.compareBytes g 0 K.toArray.size w := fun _ _ _ _ x y => by
      obtain ⟨a, m, c, z, e⟩ := encK_is hP3 x
      obtain ⟨a', m', c', z', e'⟩ := encK_is hP3 y
      rw [e, e']
      exact rwcmp_exact x y a a' m c m' c' z z' _
    have hcon := AnyQ.slices_SortFunc_total YtjmplhkdohlbcaaGreatDoor.laysSortRw 3 Tryz.isAgg98 Tryz.sizeOf98 (encK P) hk3 hone Lib.compareBytes swoB 84 #[] g 0 cap K.toArray w eg hcmp hH (Array.getElem?_eq_some_iff.1 hg).1 (by rw [List.length_map] at hn; simp [hKl]; omega) totB
    change Calls Tryz.prog 83 _ _ _ at hcon
    simp only [List.size_toArray, hKl] at hcon
    rw [List.length_map] at hrow0 hn1 ⊢
    refine hcon.mono ?_
    rintro e w' ⟨rfl, q, os, rfl⟩
    obtain ⟨K', hK'⟩ : ∃ K', K' = K.mergeSort fun x y => !(ltOf Lib.compareBytes) y x := ⟨_, rfl⟩
    have hperm : K'.Perm K := by rw [hK']; exact List.mergeSort_perm _ _
    have hpw : K'.Pairwise fun x y => x ≤ y := by
      rw [hK']
      have := List.pairwise_mergeSort (le := fun x y => !(ltOf Lib.compareBytes) y x) (fun a b c h1 h2 => by
        rw [Bool.not_eq_true', lt_cmpB, decide_eq_false_iff_not] at *
        exact List.not_lt.2 (List.le_trans (List.not_lt.1 h1) (List.not_lt.1 h2))) (fun a b => by
        rw [Bool.or_eq_true, Bool.not_eq_true', Bool.not_eq_true', lt_cmpB, lt_cmpB, decide_eq_false_iff_not, decide_eq_false_iff_not]
        rcases List.le_total a b with h | h
        · exact Or.inl (List.not_lt.2 h)
        · exact Or.inr (List.not_lt.2 h)) K
      exact this.imp fun h => by
        rw [Bool.not_eq_true', lt_cmpB, decide_eq_false_iff_not] at h
        exact List.not_lt.1 h
    obtain ⟨j1, j2, j3⟩ := sorted_rows hd K' (hK ▸ hperm) hpw
    simp only [List.toList_toArray] at *
    rw [← hK']
    have hgrow : w.grownBy (Sort.grow (Sort.putRow id (Sort.ahead w q) g 0 (Sort.flatK (encK P) 3 K'.toArray)) os) (some g) := grownBy_sortedV _
    have hlen' : (K'.filterMap (findK P)).length = P.length := j2.length_eq
    have hK'l : K'.length = P.length := by rw [hperm.length_eq, hKl]
    have hsz : (Sort.flatK (encK P) 3 K'.toArray).size = P.length * 3 := by rw [Sort.size_flatK]; simp [hK'l]
    refine ⟨trivial, ⟨K'.filterMap (findK P), j1, fun p hp => hP2 p (j2.mem_iff.1 hp), fun p hp => (hP3 p (j2.mem_iff.1 hp)).turn hgrow hoff, ?_⟩, hgrow⟩
    rw [srtR_len, List.length_map]
    refine ⟨by rw [pc_len (fun p hp => hP2 p (j2.mem_iff.1 hp)), hlen'], Or.inr ⟨g, cap, _, rfl, hb, heap_sortedV (Sort.flatK (encK P) 3 K'.toArray) hg, hn1, hm, by simp [Sort.putCells, hs], ?_⟩⟩
    rw [← j3, ← flat_fm hk3, ← hsz]
    exact take_putCellsV cur _ (by rw [hsz, hs]; exact Nat.mul_le_mul_right _ hn1)
end Go.Proofs.YtjmplhkdohlbcaaGreatDoor.Evl
/-
  Expressions: how many parts: the walks of count and sizeOf.
-/
namespace Go.Proofs.YtjmplhkdohlbcaaGreatDoor.Exp
open Go.RowKit Go.Gh Go.Proofs.YtjmplhkdohlbcaaGreatDoor.Lab
set_option linter.unusedVariables false
set_option linter.unusedSimpArgs false
theorem box_ex (w : World) (u0 u1 u2 u3 u4 u5 : Value) : ∃ wa, wa = w.alloc (Obj.cells #[u0, u1, u2, u3, u4, u5] 38) ∧ wa.heap[w.heap.size]? = some (.cells #[u0, u1, u2, u3, u4, u5] 38 (0, 0)) ∧ Below w.heap.size w wa ∧ w.heap.size < wa.heap.size :=
  ⟨_, rfl, heap_alloc_new w _, (Below.refl _ _).alloc (Nat.le_refl _) _, by simp⟩
theorem six_of {c : List Value} (h : c.length = 6) : ∃ a0 a1 a2 a3 a4 a5, c = [a0, a1, a2, a3, a4, a5] := by
  match c, h with
  | [a0, a1, a2, a3, a4, a5], _ => exact ⟨a0, a1, a2, a3, a4, a5, rfl⟩
set_option maxHeartbeats 8000000 in
set_option maxRecDepth 100000 in
theorem count_any (d : Nat) : ∀ (x : Ex) (u0 u1 u2 u3 u4 u5 : Value) (w : World), ExD d w x [u0, u1, u2, u3, u4, u5] → szX x ≤ 1048576 → Calls Tryz.prog 44 #[.agg #[u0, u1, u2, u3, u4, u5]] w fun e w' => e = .returned (.int .i64 (szX x : Nat)) ∧ Below w.heap.size w w' := by
  induction d with
  | zero => intro x u0 u1 u2 u3 u4 u5 w h; exact h.elim
  | succ d ih =>
    intro x u0 u1 u2 u3 u4 u5 w h hz
    obtain ⟨vm, vb, vx, hc, -, -, hx, -⟩ := h
    obtain rfl : u5 = vx := by simp at hc; exact hc.2.2.2.2.2
    obtain ⟨L, hL⟩ : ∃ L, x.xs = L := ⟨_, rfl⟩
    rw [szX_eq, hL] at hz ⊢
    rw [hL] at hx
    obtain ⟨n, hn⟩ : ∃ n, L.length = n := ⟨_, rfl⟩
    obtain ⟨ao, cp, rfl, hnc, hcp⟩ := hx.shapeN hn
    have HN := Lib.hid hn
    have HX := Lib.hid hx
    have IH := Lib.hid ih
    obtain ⟨M, hM⟩ : ∃ M, 1 + szL L = M := ⟨_, rfl⟩
    rw [hM] at hz ⊢
    have HM := Lib.hid hM
    obtain ⟨wa, hwa, hbox, hba, hsa⟩ := box_ex w u0 u1 u2 u3 u4 (.slice ao n cp)
    have HWA := Lib.hid hwa
    have HBA := Lib.hid hba
    clear hc hL hn hx ih hM hwa hba hsa
    go_enter Tryz.func44, Tryz.ntmps44
    go_upto_region 1 with (fail)
    rw [← HWA.out]
    obtain ⟨⟨-, -, -, -, -, d5⟩, -⟩ := bx6 hbox
    obtain ⟨bx, hbx⟩ : ∃ bx, w.heap.size = bx := ⟨_, rfl⟩
    rw [hbx] at d5
    have hbl : bx < wa.heap.size := by rw [← hbx]; exact (Array.getElem?_eq_some_iff.1 hbox).1
    rw [hbx]
    have HB := Lib.hid hbx
    clear hbox hbx
    go_wp2_with fail
    go_loopw [3, 9] (fun s i wr => ∃ k m : Nat, k ≤ n ∧ s = .int .i64 m ∧ i = .int .i64 k ∧ Hid (m = 1 + szL (L.take k)) ∧ Hid (Below w.heap.size w wr)) (fun s i _ => n - (intOf i).toNat)
    case atStart => exact ⟨0, 1, Nat.zero_le _, rfl, rfl, Lib.hid (by rw [List.take_zero, szL_nil]), HBA⟩
    case round =>
      obtain ⟨k, m, hk, rfl, rfl, HK, HBR⟩ := hrel
      have hmM : m ≤ M := by rw [HK.out, ← HM.out]; have := szL_take_le L k; omega
      by_cases hlt : k < n
      case neg =>
        obtain rfl : k = n := by omega
        obtain rfl : m = M := by rw [HK.out, ← HM.out, List.take_of_length_le (Nat.le_of_eq HN.out)]
        go_wp2_with fail
        go_ret
        exact ⟨rfl, HBR.out⟩
      obtain ⟨y, hy⟩ : ∃ y, L[k]? = some y := ⟨_, List.getElem?_eq_getElem (by rw [HN.out]; exact hlt)⟩
      obtain ⟨b, off, cs, rfl, hy2, hl6, hck⟩ := (HX.out.below (exD_mono d) HBR.out).get hy
      obtain ⟨k0, k1, k2, am, lm, cm, ab, lb, cb, ax, lx, cx, rfl⟩ := exD_shape hy2
      have c0 := hck 0 _ rfl
      have c1 := hck 1 _ rfl
      have c2 := hck 2 _ rfl
      have c3 := hck 3 _ rfl
      have c4 := hck 4 _ rfl
      have c5 := hck 5 _ rfl
      rw [Nat.add_zero] at c0
      obtain ⟨q, hq⟩ : ∃ q, szX y = q := ⟨_, rfl⟩
      have hsum : m + q ≤ M := by
        have h1 := szL_take hy
        have h2 := szL_take_le L (k + 1)
        rw [HK.out, ← HM.out]
        omega
      have HNX : Hid (m + q = 1 + szL (L.take (k + 1))) := Lib.hid (by rw [HK.out, szL_take hy]; omega)
      obtain ⟨wb, hwb, -, hbb, -⟩ := box_ex wr (.int .i64 k0) (.int .i64 k1) (.int .i64 k2) (.slice am lm cm) (.slice ab lb cb) (.slice ax lx cx)
      have HBB := Lib.hid (HBR.out.trans (hbb.mono HBR.out.size))
      have HC := Lib.hid (IH.out y (.int .i64 k0) (.int .i64 k1) (.int .i64 k2) (.slice am lm cm) (.slice ab lb cb) (.slice ax lx cx) wb (exD_mono d _ _ _ _ hy2 hbb) (by omega))
      rw [hq] at HC
      rw [hwb] at HC HBB
      clear hck hy2 hl6 hy hq hwb hbb
      go_wp2_with fail
      refine HC.out.mono ?_
      rintro e w2 ⟨rfl, hb2⟩
      have HB2 := Lib.hid (HBB.out.trans (hb2.mono HBB.out.size))
      clear hb2
      go_wp2_with fail
      go_roundw
      case rel => exact ⟨k + 1, m + q, by omega, by go_num, by go_num, HNX, HB2⟩
      case measure => simp [intOf]; omega
set_option maxHeartbeats 8000000 in
set_option maxRecDepth 100000 in
theorem sizeof_any (d : Nat) : ∀ (x : Ex) (u0 u1 u2 u3 u4 u5 : Value) (w : World), ExD d w x [u0, u1, u2, u3, u4, u5] → szX x ≤ 1048576 → Calls Tryz.prog 42 #[.agg #[u0, u1, u2, u3, u4, u5]] w fun e w' => e = .returned (.int .i64 (szX x : Nat)) ∧ Below w.heap.size w w' := by
  induction d with
  | zero => intro x u0 u1 u2 u3 u4 u5 w h; exact h.elim
  | succ d ih =>
    intro x u0 u1 u2 u3 u4 u5 w h hz
    obtain ⟨vm, vb, vx, hc, -, -, hx, -⟩ := h
    obtain rfl : u5 = vx := by simp at hc; exact hc.2.2.2.2.2
    obtain ⟨L, hL⟩ : ∃ L, x.xs = L := ⟨_, rfl⟩
    rw [szX_eq, hL] at hz ⊢
    rw [hL] at hx
    obtain ⟨n, hn⟩ : ∃ n, L.length = n := ⟨_, rfl⟩
    obtain ⟨ao, cp, rfl, hnc, hcp⟩ := hx.shapeN hn
    have HN := Lib.hid hn
    have HX := Lib.hid hx
    have IH := Lib.hid ih
    obtain ⟨M, hM⟩ : ∃ M, 1 + szL L = M := ⟨_, rfl⟩
    rw [hM] at hz ⊢
    have HM := Lib.hid hM
    obtain ⟨wa, hwa, hbox, hba, hsa⟩ := box_ex w u0 u1 u2 u3 u4 (.slice ao n cp)
    have HWA := Lib.hid hwa
    have HBA := Lib.hid hba
    clear hc hL hn hx ih hM hwa hba hsa
    go_enter Tryz.func42, Tryz.ntmps42
    go_upto_region 1 with (fail)
    rw [← HWA.out]
    obtain ⟨⟨-, -, -, -, -, d5⟩, -⟩ := bx6 hbox
    obtain ⟨bx, hbx⟩ : ∃ bx, w.heap.size = bx := ⟨_, rfl⟩
    rw [hbx] at d5
    have hbl : bx < wa.heap.size := by rw [← hbx]; exact (Array.getElem?_eq_some_iff.1 hbox).1
    rw [hbx]
    have HB := Lib.hid hbx
    clear hbox hbx
    go_wp2_with fail
    go_loopw [3, 9] (fun s i wr => ∃ k m : Nat, k ≤ n ∧ s = .int .i64 m ∧ i = .int .i64 k ∧ Hid (m = 1 + szL (L.take k)) ∧ Hid (Below w.heap.size w wr)) (fun s i _ => n - (intOf i).toNat)
    case atStart => exact ⟨0, 1, Nat.zero_le _, rfl, rfl, Lib.hid (by rw [List.take_zero, szL_nil]), HBA⟩
    case round =>
      obtain ⟨k, m, hk, rfl, rfl, HK, HBR⟩ := hrel
      have hmM : m ≤ M := by rw [HK.out, ← HM.out]; have := szL_take_le L k; omega
      by_cases hlt : k < n
      case neg =>
        obtain rfl : k = n := by omega
        obtain rfl : m = M := by rw [HK.out, ← HM.out, List.take_of_length_le (Nat.le_of_eq HN.out)]
        go_wp2_with fail
        go_ret
        exact ⟨rfl, HBR.out⟩
      obtain ⟨y, hy⟩ : ∃ y, L[k]? = some y := ⟨_, List.getElem?_eq_getElem (by rw [HN.out]; exact hlt)⟩
      obtain ⟨b, off, cs, rfl, hy2, hl6, hck⟩ := (HX.out.below (exD_mono d) HBR.out).get hy
      obtain ⟨k0, k1, k2, am, lm, cm, ab, lb, cb, ax, lx, cx, rfl⟩ := exD_shape hy2
      have c0 := hck 0 _ rfl
      have c1 := hck 1 _ rfl
      have c2 := hck 2 _ rfl
      have c3 := hck 3 _ rfl
      have c4 := hck 4 _ rfl
      have c5 := hck 5 _ rfl
      rw [Nat.add_zero] at c0
      obtain ⟨q, hq⟩ : ∃ q, szX y = q := ⟨_, rfl⟩
      have hsum : m + q ≤ M := by
        have h1 := szL_take hy
        have h2 := szL_take_le L (k + 1)
        rw [HK.out, ← HM.out]
        omega
      have HNX : Hid (m + q = 1 + szL (L.take (k + 1))) := Lib.hid (by rw [HK.out, szL_take hy]; omega)
      obtain ⟨wb, hwb, -, hbb, -⟩ := box_ex wr (.int .i64 k0) (.int .i64 k1) (.int .i64 k2) (.slice am lm cm) (.slice ab lb cb) (.slice ax lx cx)
      have HBB := Lib.hid (HBR.out.trans (hbb.mono HBR.out.size))
      have HC := Lib.hid (IH.out y (.int .i64 k0) (.int .i64 k1) (.int .i64 k2) (.slice am lm cm) (.slice ab lb cb) (.slice ax lx cx) wb (exD_mono d _ _ _ _ hy2 hbb) (by omega))
      rw [hq] at HC
      rw [hwb] at HC HBB
      clear hck hy2 hl6 hy hq hwb hbb
      go_wp2_with fail
      refine HC.out.mono ?_
      rintro e w2 ⟨rfl, hb2⟩
      have HB2 := Lib.hid (HBB.out.trans (hb2.mono HBB.out.size))
      clear hb2
      go_wp2_with fail
      go_roundw
      case rel => exact ⟨k + 1, m + q, by omega, by go_num, by go_num, HNX, HB2⟩
      case measure => simp [intOf]; omega
end Go.Proofs.YtjmplhkdohlbcaaGreatDoor.Exp
/-
  Expressions: the walks of parts and check (PRINTED by mkex2.py).
-/
namespace Go.Proofs.YtjmplhkdohlbcaaGreatDoor.Exp
open Go.RowKit Go.Gh Go.Proofs.YtjmplhkdohlbcaaGreatDoor.Lab
set_option linter.unusedVariables false
set_option linter.unusedSimpArgs false
set_option maxHeartbeats 4000000 in
set_option maxRecDepth 100000 in
theorem parts_any (K : Int) (w : World) : Calls Tryz.prog 69 #[.int .i64 K] w fun e w' => e = .returned (.int .i64 (prtF K)) ∧ w = w' := by
  have h : K = 1 ∨ K = 2 ∨ K = 3 ∨ K = 4 ∨ K = 5 ∨ K = 6 ∨ K = 7 ∨ K = 8 ∨ (K < 1 ∨ 8 < K) := by omega
  rcases h with rfl | rfl | rfl | rfl | rfl | rfl | rfl | rfl | h
  case inr.inr.inr.inr.inr.inr.inr.inr =>
    have hp : prtF K = -1 := by unfold prtF; rw [if_neg (by omega), if_neg (by omega), if_neg (by omega)]
    have e1 : (K == 1) = false := by simp; omega
    have e2 : (K == 2) = false := by simp; omega
    have e3 : (K == 3) = false := by simp; omega
    have e4 : (K == 4) = false := by simp; omega
    have e5 : (K == 5) = false := by simp; omega
    have e6 : (K == 6) = false := by simp; omega
    have e7 : (K == 7) = false := by simp; omega
    have e8 : (K == 8) = false := by simp; omega
    rw [hp]
    clear h hp
    go_enter Tryz.func69, Tryz.ntmps69
    go_wp2_with fail
    go_ret
    exact ⟨rfl, rfl⟩
  all_goals
    go_enter Tryz.func69, Tryz.ntmps69
    go_wp2_with fail
    go_ret
    exact ⟨rfl, rfl⟩
def BadC (p K N W : Int) (lm lb lx : Nat) : Prop := p < 0 ∨ (lx : Int) ≠ p ∨ (K ≠ 1 ∧ N ≠ 0) ∨ (K ≠ 2 ∧ (W ≠ 0 ∨ 0 < lm)) ∨ (p ≠ 1 ∧ 0 < lb) ∨ (K = 2 ∧ (W < 1 ∨ 1099511627776 < W))
theorem badX_c (x : Ex) : badX x ↔ BadC (prtF x.kd) x.kd x.n x.wd x.ms.length x.bs.length x.xs.length := Iff.rfl
theorem badB {B : Bool} {x : Ex} (h : B = decide (badX x)) {p K N W : Int} {lm lb lx : Nat} (hp : prtF x.kd = p) (hK : x.kd = K) (hN : x.n = N) (hW : x.wd = W) (hm : x.ms.length = lm) (hb : x.bs.length = lb) (hx : x.xs.length = lx) : (B = true ↔ BadC p K N W lm lb lx) := by
  rw [h, decide_eq_true_iff, badX_c, hp, hK, hN, hW, hm, hb, hx]
theorem byL_take {L : List By} {k : Nat} {x : By} (h : L[k]? = some x) : byL (L.take (k + 1)) = byL (L.take k) ++ [⟨x, []⟩] := by
  unfold byL
  rw [List.take_add_one, h, List.map_append]
  rfl
theorem byL_len (L : List By) : (byL L).length = L.length := by unfold byL; rw [List.length_map]
set_option maxHeartbeats 16000000 in
set_option maxRecDepth 100000 in
theorem check_any (d : Nat) : ∀ (x : Ex) (u0 u1 u2 u3 u4 u5 : Value) (w : World), ExD d w x [u0, u1, u2, u3, u4, u5] → Calls Tryz.prog 45 #[.agg #[u0, u1, u2, u3, u4, u5]] w fun e w' => e = .returned (.int .i64 (chX x)) ∧ Below w.heap.size w w' := by
  induction d with
  | zero => intro x u0 u1 u2 u3 u4 u5 w h; exact h.elim
  | succ d ih =>
    intro x u0 u1 u2 u3 u4 u5 w h
    obtain ⟨vm, vb, vx, hc, hm, hb, hx, hbd, -⟩ := h
    simp only [List.cons.injEq, and_true] at hc
    obtain ⟨rfl, rfl, rfl, rfl, rfl, rfl⟩ := hc
    obtain ⟨lm, hlm⟩ : ∃ n, x.ms.length = n := ⟨_, rfl⟩
    obtain ⟨lb, hlb⟩ : ∃ n, x.bs.length = n := ⟨_, rfl⟩
    obtain ⟨lx, hlx⟩ : ∃ n, x.xs.length = n := ⟨_, rfl⟩
    obtain ⟨am, cm, rfl, hm1, hm2⟩ := hm.shapeN hlm
    obtain ⟨ab, cb, rfl, hb1, hb2⟩ := hb.shapeN hlb
    obtain ⟨ax, cx, rfl, hx1, hx2⟩ := hx.shapeN hlx
    have hF := chX_eq x
    obtain ⟨F, hF2⟩ : ∃ F, chX x = F := ⟨_, rfl⟩
    rw [hF2] at hF ⊢
    obtain ⟨K, hK⟩ : ∃ K, x.kd = K := ⟨_, rfl⟩
    obtain ⟨N, hN⟩ : ∃ K, x.n = K := ⟨_, rfl⟩
    obtain ⟨W, hW⟩ : ∃ K, x.wd = K := ⟨_, rfl⟩
    obtain ⟨p, hp⟩ : ∃ p, prtF x.kd = p := ⟨_, rfl⟩
    obtain ⟨B, hB⟩ : ∃ B, B = decide (badX x) := ⟨_, rfl⟩
    have HB := Lib.hid (badB hB hp hK hN hW hlm hlb hlx)
    have HF : Hid (F = if B = true then 1 else if matchF x.ms ≠ 0 then matchF x.ms else if labelF (byL x.bs) ≠ 0 then labelF (byL x.bs) else chL x.xs) := Lib.hid (by rw [hF, hB]; simp only [decide_eq_true_iff])
    rw [hK] at hp
    have HPA := Lib.hid (fun w => parts_any K w)
    rw [hp] at HPA
    rw [hK, hN, hW]
    obtain ⟨wa, hwa, hbox, hba, hsa⟩ := box_ex w (.int .i64 K) (.int .i64 N) (.int .i64 W) (.slice am lm cm) (.slice ab lb cb) (.slice ax lx cx)
    have HWA := Lib.hid hwa
    have HBA := Lib.hid hba
    have HM := Lib.hid hm
    have HBS := Lib.hid hb
    have HX := Lib.hid hx
    have HLB := Lib.hid hlb
    have HLX := Lib.hid hlx
    have IH := Lib.hid ih
    have HBD := Lib.hid hbd
    obtain ⟨E1, hE1⟩ : ∃ E, matchF x.ms = E := ⟨_, rfl⟩
    obtain ⟨E2, hE2⟩ : ∃ E, labelF (byL x.bs) = E := ⟨_, rfl⟩
    rw [hE1, hE2] at HF
    have HMC := Lib.hid (fun W (hb : Below w.heap.size w W) => mtcheck_any _ x.ms W (hm.below mtR_mono hb))
    rw [hE1] at HMC
    have HE2 := Lib.hid hE2
    obtain ⟨BS, hBS⟩ : ∃ E, x.bs = E := ⟨_, rfl⟩
    obtain ⟨XS, hXS⟩ : ∃ E, x.xs = E := ⟨_, rfl⟩
    rw [hBS] at HBS HLB HE2 HBD
    rw [hXS] at HX HLX HF
    clear hF hF2 hK hN hW hp hB hwa hba hsa hm hb hx hlm hlb hlx ih hbd hE1 hE2 hBS hXS
    go_enter Tryz.func45, Tryz.ntmps45
    go_upto_region 1 with (fail)
    rw [← HWA.out]
    obtain ⟨⟨d0, d1, d2, d3, d4, d5⟩, -⟩ := bx6 hbox
    obtain ⟨bx, hbx⟩ : ∃ bx, w.heap.size = bx := ⟨_, rfl⟩
    rw [hbx] at d0 d1 d2 d3 d4 d5 hbox ⊢
    have HBX := Lib.hid hbox
    have HBE := Lib.hid hbx
    clear hbox hbx
    go_upto_region 3 with (go_at_call 69; refine (HPA.out _).mono ?_; rintro e w2 ⟨rfl, rfl⟩)
    obtain ⟨A0, hA0⟩ : ∃ A, A = Value.agg #[.int .i64 K, .int .i64 N, .int .i64 W, .slice am lm cm, .slice ab lb cb, .slice ax lx cx] := ⟨_, rfl⟩
    rw [← hA0]
    clear hA0
    go_cut [3, 4, 75] (fun x y t wx => t = .bool B ∧ wx = wa)
    case first =>
      go_wp2_with fail
      all_goals
        go_meet
        refine ⟨congrArg Value.bool (Bool.eq_iff_iff.2 (Iff.trans ?_ HB.out.symm)), rfl⟩
        unfold BadC
        first
          | (simp only [decide_eq_true_iff]; omega)
          | (simp only [true_iff]; omega)
          | (simp only [Bool.false_eq_true, false_iff]; omega)
          | (simp only [Bool.or_eq_true, decide_eq_true_iff]; omega)
    obtain ⟨rfl, rfl⟩ := hcut
    obtain ⟨wa, rfl⟩ : ∃ x, x = wc := ⟨_, rfl⟩
    cases B with
    | true =>
      have hf : F = 1 := by rw [HF.out]; exact if_pos rfl
      subst hf
      go_wp2_with fail
      go_ret
      exact ⟨rfl, HBA.out⟩
    | false =>
    have HF1 : Hid (F = if E1 ≠ 0 then E1 else if E2 ≠ 0 then E2 else chL XS) := Lib.hid (by rw [HF.out]; exact if_neg (by decide))
    have hbl : bx < wa.heap.size := (Array.getElem?_eq_some_iff.1 HBX.out).1
    go_upto_region 6 with (go_at_call 47; refine (HMC.out _ HBA.out).mono ?_; rintro e w3 ⟨rfl, hb3⟩; have HBX3 := Lib.hid ((hb3.block bx hbl).trans HBX.out); have HB3 := Lib.hid (HBA.out.trans (hb3.mono HBA.out.size)); clear hb3)
    by_cases g1 : E1 = 0
    case neg =>
      have hf : F = E1 := by rw [HF1.out]; exact if_pos g1
      have t1 : (E1 != 0) = true := by rw [bne_iff_ne]; exact g1
      subst hf
      clear g1
      go_wp2_with fail
      go_ret
      exact ⟨rfl, HB3.out⟩
    subst g1
    have HF2 : Hid (F = if E2 ≠ 0 then E2 else chL XS) := Lib.hid (by rw [HF1.out]; exact if_neg (by decide))
    obtain ⟨⟨-, -, -, -, e4, -⟩, -⟩ := bx6 HBX3.out
    clear d0 d1 d2 d3 d4 d5
    have hbl3 : bx < w3.heap.size := (Array.getElem?_eq_some_iff.1 HBX3.out).1
    have hlb20 : lb ≤ 1048576 := by rw [← HLB.out]; exact HBD.out
    go_wp2_with fail
    go_loopw [6, 85] (fun u i wr => ∃ (k : Nat), k ≤ lb ∧ i = .int .i64 k ∧ Hid (Ow LbR 2 75 w3.heap.size wr u (byL (BS.take k))) ∧ Hid (Below w3.heap.size w3 wr)) (fun _ i _ => lb - (intOf i).toNat)
    case atStart => exact ⟨0, Nat.zero_le _, rfl, Lib.hid Ow.nil, Lib.hid (Below.refl _ _)⟩
    case round =>
      obtain ⟨k, hk, rfl, HO, HBR⟩ := hrel
      by_cases hlt : k < lb
      case neg =>
        obtain rfl : k = lb := by omega
        obtain ⟨uo, uc, hu3, hu1, hu2⟩ := Sp.shapeN HO.out.sp (by rw [byL_len, List.length_take, HLB.out, Nat.min_self])
        subst hu3
        have HLC := Lib.hid (lbcheck_any _ (byL BS) wr (by have := HO.out.sp; rwa [List.take_of_length_le (by rw [HLB.out]; exact Nat.le_refl _)] at this))
        rw [HE2.out] at HLC
        have HBX4 := Lib.hid ((HBR.out.block bx hbl3).trans HBX3.out)
        have hbl4 : bx < wr.heap.size := (Array.getElem?_eq_some_iff.1 HBX4.out).1
        have HB4 := Lib.hid (HB3.out.trans (HBR.out.mono HB3.out.size))
        clear hu1 hu2 e4
        go_upto_region 15 with (go_at_call 11; refine HLC.out.mono ?_; rintro e w6 ⟨rfl, hb6⟩; have HBX6 := Lib.hid ((hb6.block bx hbl4).trans HBX4.out); have HB6 := Lib.hid (HB4.out.trans (hb6.mono HB4.out.size)); clear hb6)
        by_cases g2 : E2 = 0
        case neg =>
          have hf : F = E2 := by rw [HF2.out]; exact if_pos g2
          have t1 : (E2 != 0) = true := by rw [bne_iff_ne]; exact g2
          subst hf
          clear g2
          go_wp2_with fail
          go_ret
          exact ⟨rfl, HB6.out⟩
        subst g2
        have HF3 : Hid (F = chL XS) := Lib.hid (by rw [HF2.out]; exact if_neg (by decide))
        obtain ⟨⟨-, -, -, -, -, e5⟩, -⟩ := bx6 HBX6.out
        go_wp2_with fail
        obtain ⟨wB, rfl⟩ : ∃ x, x = wr := ⟨_, rfl⟩
        go_loopw [103] (fun i wr => ∃ (k : Nat), k ≤ lx ∧ i = .int .i64 k ∧ Hid (F = chL (XS.drop k)) ∧ Hid (Below w.heap.size w wr)) (fun i _ => lx - (intOf i).toNat)
        case atStart => exact ⟨0, Nat.zero_le _, rfl, HF3, HB6⟩
        case round =>
          obtain ⟨j, hj, rfl, HFJ, HBJ⟩ := hrel
          by_cases hjl : j < lx
          case neg =>
            have hf : F = 0 := by rw [HFJ.out, List.drop_of_length_le (by rw [HLX.out]; omega), chL_nil]
            subst hf
            go_wp2_with fail
            go_ret
            exact ⟨rfl, HBJ.out⟩
          obtain ⟨y, hy⟩ : ∃ y, XS[j]? = some y := ⟨_, List.getElem?_eq_getElem (by rw [HLX.out]; exact hjl)⟩
          obtain ⟨b, off, cs, rfl, hy2, -, hck⟩ := (HX.out.below (exD_mono d) HBJ.out).get hy
          obtain ⟨k0, k1, k2, xm, ym, zm, xb, yb, zb, xx, yx, zx, rfl⟩ := exD_shape hy2
          have c0 := hck 0 _ rfl
          have c1 := hck 1 _ rfl
          have c2 := hck 2 _ rfl
          have c3 := hck 3 _ rfl
          have c4 := hck 4 _ rfl
          have c5 := hck 5 _ rfl
          rw [Nat.add_zero] at c0
          obtain ⟨q, hq⟩ : ∃ q, chX y = q := ⟨_, rfl⟩
          have HFK : Hid (F = if q ≠ 0 then q else chL (XS.drop (j + 1))) := Lib.hid (by rw [HFJ.out, drop_at' hy, chL_cons, hq])
          obtain ⟨wb, hwb, -, hbb, -⟩ := box_ex wr (.int .i64 k0) (.int .i64 k1) (.int .i64 k2) (.slice xm ym zm) (.slice xb yb zb) (.slice xx yx zx)
          have HBB := Lib.hid (HBJ.out.trans (hbb.mono HBJ.out.size))
          have HC := Lib.hid (IH.out y (.int .i64 k0) (.int .i64 k1) (.int .i64 k2) (.slice xm ym zm) (.slice xb yb zb) (.slice xx yx zx) wb (exD_mono d _ _ _ _ hy2 hbb))
          rw [hq] at HC
          rw [hwb] at HC HBB
          clear hck hy2 hy hq hwb hbb
          go_wp2_with fail
          refine HC.out.mono ?_
          rintro e w7 ⟨rfl, hb7⟩
          have HB7 := Lib.hid (HBB.out.trans (hb7.mono HBB.out.size))
          clear hb7 c0 c1 c2 c3 c4 c5
          by_cases g3 : q = 0
          case neg =>
            have hf : F = q := by rw [HFK.out]; exact if_pos g3
            have t1 : (q != 0) = true := by rw [bne_iff_ne]; exact g3
            subst hf
            clear g3
            go_wp2_with fail
            go_ret
            exact ⟨rfl, HB7.out⟩
          subst g3
          have HFL : Hid (F = chL (XS.drop (j + 1))) := Lib.hid (by rw [HFK.out]; exact if_neg (by decide))
          go_wp2_with fail
          go_roundw
          case rel => exact ⟨j + 1, by omega, by go_num, HFL, HB7⟩
          case measure => simp [intOf]; omega
      obtain ⟨s, hs⟩ : ∃ s, BS[k]? = some s := ⟨_, List.getElem?_eq_getElem (by rw [HLB.out]; exact hlt)⟩
      obtain ⟨b, off, cs, rfl, ⟨rfl, hsl⟩, -, hck⟩ := ((HBS.out.below strR_mono HB3.out).below strR_mono HBR.out).get hs
      have c0 := hck 0 _ rfl
      rw [Nat.add_zero, Nat.mul_one] at c0
      have HS := Lib.hid hs
      have HPL : Hid ((byL (BS.take k)).length = k) := Lib.hid (by rw [byL_len, List.length_take, HLB.out]; omega)
      obtain ⟨uo, uc, rfl, hu1, hu2⟩ := Sp.shapeN HO.out.sp HPL.out
      obtain ⟨P, hP1, hP2, hP3, hP4⟩ := HO.out
      rw [HPL.out] at hP4
      have HPP := Lib.hid (And.intro hP1 (And.intro hP2 hP3))
      have HMR : Hid (LbR w ⟨s, []⟩ [.string (mkS s), .string ⟨#[]⟩]) := Lib.hid ⟨rfl, by show s.length ≤ _; omega, by show (0 : Nat) ≤ _; omega⟩
      obtain ⟨Sn, hSn⟩ : ∃ S, S = mkS s := ⟨_, rfl⟩
      rw [← hSn] at HMR c0
      have HBB := HBR.out
      clear hck hs hP1 hP2 hP3 hSn hsl
      go_wp2_with (at_builtin; refine append1 [.string Sn, .string ⟨#[]⟩] elLb rfl _ _ rfl hP4 HBB HBB.size rfl rfl rfl (by intro x hx; simp at hx; rcases hx with rfl | rfl <;> rfl) ?c4 ?c5 ?_)
      case c4 => omega
      case c5 => omega
      intro v5 w5 hown5 hbel5 hgr5
      have HON : Hid (Ow LbR 2 75 w3.heap.size w5 v5 (byL (BS.take (k + 1)))) := Lib.hid (by
        rw [byL_take HS.out]
        exact Ow.snoc (w := wr) (lbR_grow _ _ _) HPP.out.1 HPP.out.2.1 (fun q hq => HPP.out.2.2 q hq) hP4 HPL.out.symm hgr5 hown5 rfl HMR.out)
      have HB5 := Lib.hid hbel5
      obtain ⟨vo, vc, rfl, -, -, -⟩ := own_shape hown5
      clear hown5 hgr5 hbel5 hP4 HBB
      go_wp2_with fail
      go_roundw
      case rel => exact ⟨k + 1, by omega, by go_num, HON, HB5⟩
      case measure => simp [intOf]; omega
end Go.Proofs.YtjmplhkdohlbcaaGreatDoor.Exp
/-
  The walk of eval.
-/
namespace Go.Proofs.YtjmplhkdohlbcaaGreatDoor.Evl
open Go.RowKit Go.Gh Go.Gh.Clr Go.WideShapes Go.Proofs.YtjmplhkdohlbcaaGreatDoor.Lab Go.Proofs.YtjmplhkdohlbcaaGreatDoor.Exp
set_option linter.unusedVariables false
set_option linter.unusedSimpArgs false
theorem grp_dst (k : Int) (b : List By) (S : List Rw) : Dst (grpF k b S) := by
  have e1 : grpF k b S = (S.map (grR k b)).foldl (fun o r => putP (opK k) r o) [] := by
    unfold grpF
    rw [List.foldl_map]
  obtain ⟨h1, h2⟩ := puts_mores (f := opK k) (S.map (grR k b)) asc_nil (List.Perm.refl [])
  rw [e1]
  exact h2.dst.perm h1
/-- The series that are asked. -/
structure AllOk (all : List Srs) (now : Int) : Prop where
  ok : SrsOk all
  smp : ∀ s ∈ all, labelF s.1 = 0 ∧ Smp.sampF s.2 = 0
  len : all.length ≤ 200
  lo : -1152921504606846976 ≤ now
  hi : now ≤ 1152921504606846976
/-- What the unsorted rows are. -/
def rawX (all : List Srs) (now : Int) (x : Ex) : List Rw :=
  if x.kd = 2 then selF all now x.wd x.ms else if x.kd = 3 ∨ x.kd = 4 ∨ x.kd = 5 then grpF x.kd x.bs ((evL all now x.xs).headD []) else prsF x.kd ((evL all now x.xs).headD []) ((evL all now x.xs).getD 1 [])
theorem raw_srt {all : List Srs} {now : Int} {x : Ex} (h1 : x.kd ≠ 1) : evX all now x = srtR (rawX all now x) := by
  rw [evX_eq]
  unfold evA rawX
  rw [if_neg h1]
  split
  · rfl
  · split
    · rfl
    · rfl
/-- The sort's contract, stated for a result of the walk. -/
theorem rsp_sort {w w1 w2 : World} {v : Value} {S : List Rw} (ho : Ow (RwO w.heap.size) 3 98 w.heap.size w1 v S) (hb : Below w.heap.size w w1) (ho2 : Ow (RwO w.heap.size) 3 98 w.heap.size w2 v (srtR S)) (hg : w1.grownBy w2 v.ownBlock) : RsP w (srtR S) (.returned v) w2 := by
  refine ⟨v, rfl, ho2, ?_⟩
  obtain ⟨P, -, -, -, h4⟩ := ho
  exact Below.grown hb hg hb.size (fun k hk => (h4.lt k hk).1)
set_option maxHeartbeats 16000000 in
set_option maxRecDepth 100000 in
theorem eval_any {all : List Srs} {now : Int} (hA : AllOk all now) (d : Nat) : ∀ (x : Ex) (u0 u1 u2 u3 u4 u5 v : Value) (w : World), ExD d w x [u0, u1, u2, u3, u4, u5] → chX x = 0 → Sp SrR 2 w v all → STab w → MTab w →
    Calls Tryz.prog 57 #[.agg #[v, .int .i64 now], .agg #[u0, u1, u2, u3, u4, u5]] w (RsP w (evX all now x)) := by
  induction d with
  | zero => intro x u0 u1 u2 u3 u4 u5 v w h; exact h.elim
  | succ d ih =>
    intro x u0 u1 u2 u3 u4 u5 v w h hc hv hT hM
    obtain ⟨hbad, hm0, hl0, hx0⟩ := chX_ok hc
    obtain ⟨um, ub, ux, e0, hm, hb, hx, -, -⟩ := h
    simp only [List.cons.injEq, and_true] at e0
    obtain ⟨rfl, rfl, rfl, rfl, rfl, rfl⟩ := e0
    obtain ⟨K, hK⟩ : ∃ K, x.kd = K := ⟨_, rfl⟩
    obtain ⟨hk, hl⟩ : 0 ≤ prtF x.kd ∧ (x.xs.length : Int) = prtF x.kd := by
      unfold badX at hbad
      constructor <;> omega
    have hk8 : K = 1 ∨ K = 2 ∨ (K = 3 ∨ K = 4 ∨ K = 5) ∨ (K = 6 ∨ K = 7 ∨ K = 8) := by
      rw [hK] at hk
      unfold prtF at hk
      by_cases h1 : K = 1 ∨ K = 2
      · rcases h1 with h1 | h1
        · exact Or.inl h1
        · exact Or.inr (Or.inl h1)
      rw [if_neg h1] at hk
      by_cases h2 : K = 3 ∨ K = 4 ∨ K = 5
      · exact Or.inr (Or.inr (Or.inl h2))
      rw [if_neg h2] at hk
      by_cases h3 : K = 6 ∨ K = 7 ∨ K = 8
      · exact Or.inr (Or.inr (Or.inr h3))
      rw [if_neg h3] at hk
      omega
    obtain ⟨am, cm, hum, -, -⟩ := hm.shape
    obtain ⟨ab, cb, hub, -, -⟩ := hb.shape
    obtain ⟨ax, cx, hux, -, -⟩ := hx.shape
    obtain ⟨av, cv, hvv, -, -⟩ := hv.shape
    have qum : ∃ a n c, u3 = .slice a n c := ⟨_, _, _, hum⟩
    have qub : ∃ a n c, u4 = .slice a n c := ⟨_, _, _, hub⟩
    have qux : ∃ a n c, u5 = .slice a n c := ⟨_, _, _, hux⟩
    have qv : ∃ a n c, v = .slice a n c := ⟨_, _, _, hvv⟩
    obtain ⟨W, hW⟩ : ∃ W, W = (w.alloc (.cells #[v, .int .i64 now] 93)).alloc (.cells #[.int .i64 x.kd, .int .i64 x.n, .int .i64 x.wd, u3, u4, u5] 38) := ⟨_, rfl⟩
    have hbW : Below w.heap.size w W := by rw [hW]; exact ((Below.refl _ w).alloc (Nat.le_refl _) _).alloc (by simp) _
    have hb1 : W.heap[w.heap.size]? = some (.cells #[v, .int .i64 now] 93 (0, 0)) := by rw [hW]; exact two_first w _ _
    have hb2 : W.heap[w.heap.size + 1]? = some (.cells #[.int .i64 x.kd, .int .i64 x.n, .int .i64 x.wd, u3, u4, u5] 38 (0, 0)) := by rw [hW]; exact two_second w _ _
    have HBW := Lib.hid hbW
    have hTW := hT.below hbW
    have hMW : MTab W := by obtain ⟨q, hq⟩ := hM; exact ⟨q, (hbW.cell (p := ⟨_, 0, none⟩) (cell_lt hq)).trans hq⟩
    have hvW := hv.below srR_mono hbW
    -- the rows as the three ways make them
    have HRAW : x.kd ≠ 1 → ∃ S, rawX all now x = S ∧ Dst S ∧ S.length < 1000000 ∧ (
        (x.kd = 2 → Calls Tryz.prog 82 #[.agg #[v, .int .i64 now], .agg #[.int .i64 x.kd, .int .i64 x.n, .int .i64 x.wd, u3, u4, u5]] W (RsP W S)) ∧
        ((x.kd = 3 ∨ x.kd = 4 ∨ x.kd = 5) → Calls Tryz.prog 79 #[.agg #[v, .int .i64 now], .agg #[.int .i64 x.kd, .int .i64 x.n, .int .i64 x.wd, u3, u4, u5]] W (RsP W S)) ∧
        ((x.kd = 6 ∨ x.kd = 7 ∨ x.kd = 8) → Calls Tryz.prog 80 #[.agg #[v, .int .i64 now], .agg #[.int .i64 x.kd, .int .i64 x.n, .int .i64 x.wd, u3, u4, u5]] W (RsP W S))) := by
      intro h1
      have hlen : all.length ≤ 200 := hA.len
      by_cases k2 : x.kd = 2
      · refine ⟨_, rfl, ?_, ?_, fun _ => ?_, fun h => by omega, fun h => by omega⟩
        · unfold rawX; rw [if_pos k2]; exact sel_dst hA.ok _ _ _
        · unfold rawX; rw [if_pos k2]; have := sel_len all now x.wd x.ms; omega
        · unfold rawX
          rw [if_pos k2]
          have hwd : 1 ≤ x.wd ∧ x.wd ≤ 1099511627776 := by unfold badX at hbad; omega
          exact sel_any all v now x.ms x.kd x.n x.wd u3 u4 u5 W hvW (hm.below mtR_mono hbW) qub qux hA.smp hm0 hwd.1 hwd.2 hA.lo hA.hi hA.len hTW hMW
      · by_cases k3 : x.kd = 3 ∨ x.kd = 4 ∨ x.kd = 5
        · have hl1 : x.xs.length = 1 := by
            have : prtF x.kd = 1 := by unfold prtF; rw [if_neg (by omega), if_pos k3]
            omega
          obtain ⟨y, hy⟩ := List.length_eq_one_iff.1 hl1
          rw [hy] at hx
          have hy0 : chX y = 0 := chL_at (L := x.xs) (k := 0) hx0 (by rw [hy]; rfl)
          have hf := (ev_ak hA.ok now (szX y) y (Nat.le_refl _) hy0).2
          have hraw : rawX all now x = grpF x.kd x.bs (evX all now y) := by unfold rawX; rw [if_neg k2, if_pos k3, hy, evL_cons]; rfl
          have hSl : (evX all now y).length ≤ 200 := by have := hf.len; omega
          refine ⟨_, hraw, grp_dst _ _ _, ?_, fun h => by omega, fun _ => ?_, fun h => by omega⟩
          · have := grp_len x.kd x.bs (evX all now y); omega
          · exact group_any (evX all now y) y d x.bs v now x.kd x.n x.wd u3 u4 u5 W (hb.below strR_mono hbW) (hx.below (exD_mono d) hbW) qum qv hf.gd (by omega) hTW
              (fun W2 c0 c1 c2 c3 c4 c5 hb hd => ih y c0 c1 c2 c3 c4 c5 v W2 hd hy0 (hvW.below srR_mono hb) (hTW.below hb) (by obtain ⟨q, hq⟩ := hMW; exact ⟨q, (hb.cell (p := ⟨_, 0, none⟩) (cell_lt hq)).trans hq⟩))
        · have k6 : x.kd = 6 ∨ x.kd = 7 ∨ x.kd = 8 := by omega
          have hl2 : x.xs.length = 2 := by
            have : prtF x.kd = 2 := by unfold prtF; rw [if_neg (by omega), if_neg k3, if_pos k6]
            omega
          obtain ⟨y, z, hy⟩ : ∃ y z, x.xs = [y, z] := by
            match x.xs, hl2 with
            | [y, z], _ => exact ⟨y, z, rfl⟩
          rw [hy] at hx
          have hy0 : chX y = 0 := chL_at (L := x.xs) (k := 0) hx0 (by rw [hy]; rfl)
          have hz0 : chX z = 0 := chL_at (L := x.xs) (k := 1) hx0 (by rw [hy]; rfl)
          have hf := (ev_ak hA.ok now (szX y) y (Nat.le_refl _) hy0).2
          have hg := (ev_ak hA.ok now (szX z) z (Nat.le_refl _) hz0).2
          have hraw : rawX all now x = prsF x.kd (evX all now y) (evX all now z) := by unfold rawX; rw [if_neg k2, if_neg k3, hy, evL_cons, evL_cons]; rfl
          have hSl : (evX all now y).length ≤ 200 := by have := hf.len; omega
          have hSm : (evX all now z).length ≤ 200 := by have := hg.len; omega
          refine ⟨_, hraw, prs_dst hf.asc.dst hg.asc.dst, ?_, fun h => by omega, fun h => by omega, fun _ => ?_⟩
          · have := prs_len (k := x.kd) hf hg; omega
          · exact pair_any (evX all now y) (evX all now z) y z d v now x.kd x.n x.wd u3 u4 u5 W (hx.below (exD_mono d) hbW) qum qub qv hf.gd (by omega) hg.gd (by omega) hTW
              (fun W2 c0 c1 c2 c3 c4 c5 hb hd => ih y c0 c1 c2 c3 c4 c5 v W2 hd hy0 (hvW.below srR_mono hb) (hTW.below hb) (by obtain ⟨q, hq⟩ := hMW; exact ⟨q, (hb.cell (p := ⟨_, 0, none⟩) (cell_lt hq)).trans hq⟩))
              (fun W2 c0 c1 c2 c3 c4 c5 hb hd => ih z c0 c1 c2 c3 c4 c5 v W2 hd hz0 (hvW.below srR_mono hb) (hTW.below hb) (by obtain ⟨q, hq⟩ := hMW; exact ⟨q, (hb.cell (p := ⟨_, 0, none⟩) (cell_lt hq)).trans hq⟩))
    have HEV1 : Hid (x.kd = 1 → evX all now x = [([], x.n)]) := Lib.hid (fun h => by rw [evX_eq]; unfold evA; rw [if_pos h])
    have HTW := Lib.hid hTW
    obtain ⟨⟨a0, a1⟩, -⟩ := bx2 hb1
    obtain ⟨⟨z0, z1, z2, z3, z4, z5⟩, -⟩ := bx6 hb2
    have HWW := Lib.hid hW
    obtain ⟨N, hN⟩ : ∃ N, x.n = N := ⟨_, rfl⟩
    obtain ⟨WD, hWD⟩ : ∃ N, x.wd = N := ⟨_, rfl⟩
    obtain ⟨EV, hEV⟩ : ∃ E, evX all now x = E := ⟨_, rfl⟩
    have HSRT : Hid (x.kd ≠ 1 → EV = srtR (rawX all now x)) := Lib.hid (fun h => by rw [← hEV]; exact raw_srt h)
    obtain ⟨RW, hRW⟩ : ∃ R, rawX all now x = R := ⟨_, rfl⟩
    rw [hRW] at HRAW HSRT
    rw [hEV] at HEV1
    rw [hK, hN] at HEV1
    rw [hK] at HSRT
    rw [hK, hN, hWD] at HRAW HWW
    rw [hK] at z0
    rw [hN] at z1
    rw [hWD] at z2
    rw [hEV, hK, hN, hWD]
    have HPT := Lib.hid (parts_any K W)
    obtain ⟨p, hp⟩ : ∃ p, prtF K = p := ⟨_, rfl⟩
    rw [hp] at HPT
    have HP := Lib.hid hp
    obtain ⟨av, nv, cv, rfl⟩ := qv
    obtain ⟨am, nm, cm, rfl⟩ := qum
    obtain ⟨ab, nb, cb, rfl⟩ := qub
    obtain ⟨ax, nx, cx, rfl⟩ := qux
    clear hbad hm0 hl0 hx0 hm hb hx hk hl hum hub hux hvv hb1 hb2 hbW hTW hMW hvW hN hWD hEV hRW hp hc hv hT hM hK hW ih
    rcases hk8 with h1 | h2 | h3 | h6
    · subst h1
      have hp0 : p = 0 := by rw [← HP.out]; rfl
      subst hp0
      have HE := Lib.hid (HEV1.out rfl)
      have HRF := Lib.hid (rowof_any (.slice none 0 0) [] N W Sp.nil rfl HTW.out)
      clear HRAW
      go_enter Tryz.func57, Tryz.ntmps57
      go_upto_region 2 with (fail)
      rw [← HWW.out]
      generalize hbx : w.heap.size = bx at *
      go_wp2_with (first | (go_at_call 69; refine HPT.out.mono ?_; rintro e w1 ⟨rfl, rfl⟩) | (go_at_call 81; refine HRF.out.mono ?_; rintro e w1 ⟨t1, rfl, ho1, hb1⟩; obtain ⟨o1, k1, rfl, -, -⟩ := ho1.sp.shapeN (show ([] : List Lb).length = 0 from rfl); have HO1 := Lib.hid (And.intro ho1 hb1); clear ho1 hb1))
      have HE2 : Hid (RsP w EV (.returned (.slice (some ⟨w1.heap.size, 0, none⟩) 1 1)) (w1.alloc (Obj.cells #[.string (mkS (kyL [])), .slice o1 0 k1, .int .i64 N] 98))) := Lib.hid (by
        have hb9 : Below w.heap.size w w1 := by rw [hbx]; exact HBW.out.trans (HO1.out.2.mono (by rw [← hbx]; exact HBW.out.size))
        have hbw : w.heap.size ≤ W.heap.size := HBW.out.size
        have ha := (Below.refl w1.heap.size w1).alloc (Nat.le_refl _) (Obj.cells #[.string (mkS (kyL [])), .slice o1 0 k1, .int .i64 N] 98)
        rw [HE.out]
        refine ⟨_, rfl, ⟨[(([], N), [.string (mkS (kyL [])), .slice o1 0 k1, .int .i64 N])], rfl, ?_, ?_, ?_⟩, hb9.trans (ha.mono hb9.size)⟩
        · intro p hp
          obtain rfl := List.mem_singleton.1 hp
          rfl
        · intro p hp
          obtain rfl := List.mem_singleton.1 hp
          exact ⟨_, rfl, (HO1.out.1.below lbR_mono ha).mono hbw⟩
        · exact own_build (e := 98) (size := 3) (n := 1) w1 [.string (mkS (kyL [])), .slice o1 0 k1, .int .i64 N] hb9.size rfl (by decide))
      go_ret
      exact HE2.out
    · obtain ⟨S, hS1, hS2, hS3, hS4, hS5, hS6⟩ := HRAW (by omega)
      have HSR := Lib.hid (hS4 h2)
      have HE : Hid (EV = srtR S) := Lib.hid (by rw [HSRT.out (by omega), hS1])
      have HSO := Lib.hid (fun v1 w1 (ho : Ow (RwO W.heap.size) 3 98 W.heap.size w1 v1 S) => sortR_own v1 W.heap.size W.heap.size S w1 ho hS2 hS3)
      have hp0 : p = 0 := by rw [← HP.out, h2]; rfl
      subst h2
      subst hp0
      clear HRAW hS1 hS2 hS3 hS4 hS5 hS6
      go_enter Tryz.func57, Tryz.ntmps57
      go_upto_region 2 with (fail)
      rw [← HWW.out]
      generalize hbx : w.heap.size = bx at *
      go_wp2_with (first
        | (go_at_call 69; refine HPT.out.mono ?_; rintro e w1 ⟨rfl, rfl⟩)
        | (go_at_call 82; refine HSR.out.mono ?_; rintro e w1 ⟨t1, rfl, ho1, hb1⟩; have HO1 := Lib.hid (And.intro ho1 hb1); have HSO1 := Lib.hid (HSO.out t1 w1 ho1); obtain ⟨o1, k1, rfl, -, -⟩ := ho1.sp.shape; clear ho1 hb1)
        | (go_at_call 83; refine HSO1.out.mono ?_; rintro e w2 ⟨rfl, ho2, hg2⟩; have HO2 := Lib.hid (And.intro ho2 hg2); clear ho2 hg2))
      go_ret
      have hbw : w.heap.size ≤ W.heap.size := HBW.out.size
      have hb9 : Below w.heap.size w w1 := by rw [hbx]; exact HBW.out.trans (HO1.out.2.mono (by rw [← hbx]; exact HBW.out.size))
      rw [HE.out]
      exact rsp_sort (rows_low HO1.out.1 hbw) hb9 (rows_low HO2.out.1 hbw) HO2.out.2
    · obtain ⟨S, hS1, hS2, hS3, hS4, hS5, hS6⟩ := HRAW (by omega)
      have HSR := Lib.hid (hS5 h3)
      have HE : Hid (EV = srtR S) := Lib.hid (by rw [HSRT.out (by omega), hS1])
      have HSO := Lib.hid (fun v1 w1 (ho : Ow (RwO W.heap.size) 3 98 W.heap.size w1 v1 S) => sortR_own v1 W.heap.size W.heap.size S w1 ho hS2 hS3)
      have hp0 : p = 1 := by rw [← HP.out]; unfold prtF; rw [if_neg (by omega), if_pos h3]
      subst hp0
      clear h3
      clear HRAW hS1 hS2 hS3 hS4 hS5 hS6
      go_enter Tryz.func57, Tryz.ntmps57
      go_upto_region 2 with (fail)
      rw [← HWW.out]
      generalize hbx : w.heap.size = bx at *
      go_wp2_with (first
        | (go_at_call 69; refine HPT.out.mono ?_; rintro e w1 ⟨rfl, rfl⟩)
        | (go_at_call 79; refine HSR.out.mono ?_; rintro e w1 ⟨t1, rfl, ho1, hb1⟩; have HO1 := Lib.hid (And.intro ho1 hb1); have HSO1 := Lib.hid (HSO.out t1 w1 ho1); obtain ⟨o1, k1, rfl, -, -⟩ := ho1.sp.shape; clear ho1 hb1)
        | (go_at_call 83; refine HSO1.out.mono ?_; rintro e w2 ⟨rfl, ho2, hg2⟩; have HO2 := Lib.hid (And.intro ho2 hg2); clear ho2 hg2))
      go_ret
      have hbw : w.heap.size ≤ W.heap.size := HBW.out.size
      have hb9 : Below w.heap.size w w1 := by rw [hbx]; exact HBW.out.trans (HO1.out.2.mono (by rw [← hbx]; exact HBW.out.size))
      rw [HE.out]
      exact rsp_sort (rows_low HO1.out.1 hbw) hb9 (rows_low HO2.out.1 hbw) HO2.out.2
    · obtain ⟨S, hS1, hS2, hS3, hS4, hS5, hS6⟩ := HRAW (by omega)
      have HSR := Lib.hid (hS6 h6)
      have HE : Hid (EV = srtR S) := Lib.hid (by rw [HSRT.out (by omega), hS1])
      have HSO := Lib.hid (fun v1 w1 (ho : Ow (RwO W.heap.size) 3 98 W.heap.size w1 v1 S) => sortR_own v1 W.heap.size W.heap.size S w1 ho hS2 hS3)
      have hp0 : p = 2 := by rw [← HP.out]; unfold prtF; rw [if_neg (by omega), if_neg (by omega), if_pos h6]
      subst hp0
      clear h6
      clear HRAW hS1 hS2 hS3 hS4 hS5 hS6
      go_enter Tryz.func57, Tryz.ntmps57
      go_upto_region 2 with (fail)
      rw [← HWW.out]
      generalize hbx : w.heap.size = bx at *
      go_wp2_with (first
        | (go_at_call 69; refine HPT.out.mono ?_; rintro e w1 ⟨rfl, rfl⟩)
        | (go_at_call 80; refine HSR.out.mono ?_; rintro e w1 ⟨t1, rfl, ho1, hb1⟩; have HO1 := Lib.hid (And.intro ho1 hb1); have HSO1 := Lib.hid (HSO.out t1 w1 ho1); obtain ⟨o1, k1, rfl, -, -⟩ := ho1.sp.shape; clear ho1 hb1)
        | (go_at_call 83; refine HSO1.out.mono ?_; rintro e w2 ⟨rfl, ho2, hg2⟩; have HO2 := Lib.hid (And.intro ho2 hg2); clear ho2 hg2))
      go_ret
      have hbw : w.heap.size ≤ W.heap.size := HBW.out.size
      have hb9 : Below w.heap.size w w1 := by rw [hbx]; exact HBW.out.trans (HO1.out.2.mono (by rw [← hbx]; exact HBW.out.size))
      rw [HE.out]
      exact rsp_sort (rows_low HO1.out.1 hbw) hb9 (rows_low HO2.out.1 hbw) HO2.out.2
end Go.Proofs.YtjmplhkdohlbcaaGreatDoor.Evl
