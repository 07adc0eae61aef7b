/-
  A shard: what stands in memory; the walk of with.
-/
import Derived.Test.YtcljeedmiobepaaRk9
import Derived.Test.YtcljeedmiobepaaHdLaw
namespace Go.Proofs.Ytcljeedmiobepaa.Hd
open Go.RowKit Go.Gh Go.Proofs.Ytcljeedmiobepaa.Rk
set_option linter.unusedVariables false
theorem hitN_mem : ∀ {l : List Int} {x : Int}, l.Pairwise (· ≤ ·) → hitN l x = decide (x ∈ l)
  | [], x, _ => by simp [hitN]
  | y :: r, x, h => by
    obtain ⟨h1, h2⟩ := List.pairwise_cons.1 h
    have ih := hitN_mem (x := x) h2
    by_cases hlt : y < x
    · have hc : cntLt x (y :: r) = cntLt x r + 1 := by rw [cntLt_cons, if_pos hlt]
      have : hitN (y :: r) x = hitN r x := by
        unfold hitN
        rw [hc, List.getElem?_cons_succ]
      rw [this, ih]
      by_cases hm : x ∈ r
      · rw [decide_eq_true hm, decide_eq_true (List.mem_cons_of_mem y hm)]
      · rw [decide_eq_false hm, decide_eq_false (fun h' => (List.mem_cons.1 h').elim (fun e => by omega) hm)]
    · have hc : cntLt x (y :: r) = 0 := cntLt_none (fun z hz => by
        rcases List.mem_cons.1 hz with rfl | hz
        · omega
        · have := h1 z hz; omega)
      have : hitN (y :: r) x = (y == x) := hitN_some hc rfl
      rw [this]
      by_cases hxy : y = x
      · subst hxy
        rw [decide_eq_true (List.mem_cons_self)]
        simp
      · rw [beq_eq_false_iff_ne.2 hxy, decide_eq_false (fun h' => by
          rcases List.mem_cons.1 h' with e | hm
          · exact hxy e.symm
          · have := h1 x hm; omega)]
theorem own_same {w w' : World} {B n size : Nat} {T : TypeId} {v : Value} {xs : List Value} (h : w.ownsRow B T size v n xs) (hs : ∀ g, v.ownBlock = some g → w'.heap[g]? = w.heap[g]?) : w'.ownsRow B T size v n xs := by
  refine ⟨h.1, ?_⟩
  rcases h.2 with hn | ⟨g, cap, cur, rfl, hb', hgg, rest⟩
  · exact .inl hn
  · exact .inr ⟨g, cap, cur, rfl, hb', (hs g rfl).trans hgg, rest⟩
theorem ns_same {w w' : World} {v : Value} {l : List Int} (h : Ns w v l) (hs : ∀ g, v.ownBlock = some g → g < w.heap.size → w'.heap[g]? = w.heap[g]?) : Ns w' v l := by
  obtain ⟨ao, cap, rfl, h2, h3, h4, h5, h6⟩ := h
  refine ⟨ao, cap, rfl, h2, h3, h4, h5, fun hn => ?_⟩
  obtain ⟨b, off, rfl, hc⟩ := h6 hn
  refine ⟨b, off, rfl, fun i u hu => ?_⟩
  have := hc i u hu
  exact (World.cell?_of_block (w := w) (w' := w') (a := ⟨b, off + i, none⟩) (hs b rfl (cell_lt this))).trans this
/-- A row is replaced: what may have turned. -/
structure RFt (B : Nat) (v v' : Value) (w w' : World) : Prop where
  size : w.heap.size ≤ w'.heap.size
  keep : ∀ b, b < w.heap.size → v.ownBlock ≠ some b → w'.heap[b]? = w.heap[b]?
  lies : ∀ g, v'.ownBlock = some g → v.ownBlock = some g ∨ w.heap.size ≤ g
  bel : Below B w w'
def WPost (B : Nat) (v : Value) (l : List Int) (w : World) (e : Ending) (w' : World) : Prop := ∃ v', e = .returned v' ∧ w'.ownsRow B 2 1 v' l.length (l.map (Value.int .i64)) ∧ RFt B v v' w w'
set_option maxRecDepth 100000 in
theorem with_any (B : Nat) (v : Value) (l : List Int) (x : Int) (w : World) (h : w.ownsRow B 2 1 v l.length (l.map (Value.int .i64))) (hr : Ris l) (hn : l.length ≤ 1000) (hB : B ≤ w.heap.size) :
    Calls Try.prog 113 #[v, .int .i64 x] w (WPost B v (insU l x) w) := by
  obtain ⟨n, hm⟩ : ∃ n, l.length = n := ⟨_, rfl⟩
  have HNS : Hid (Ns w v l) := Lib.hid (own_sl h)
  have HSR := Lib.hid (ris_le hr)
  have HM := Lib.hid hm
  rw [hm] at h hn
  obtain ⟨ao, ac, rfl, hac, -, -⟩ := own_shape h
  have HO := Lib.hid h
  obtain ⟨D, hD⟩ : ∃ D, decide (x ∈ l) = D := ⟨_, rfl⟩
  have HD := Lib.hid hD
  clear hm h hr hD
  go_enter Try.func113, Try.ntmps113
  go_wp2_with fail
  refine (bsearch_any _ l x _ HNS.out HSR.out (by rw [HM.out]; omega)).mono ?_
  rw [hitN_mem HSR.out, HD.out]
  rintro e w1 ⟨rfl, hb1⟩
  obtain ⟨i, hi⟩ : ∃ i, cntLt x l = i := ⟨_, rfl⟩
  have hin : i ≤ n := by have := cntLt_le x l; rw [hi, HM.out] at this; exact this
  rw [hi]
  have HI := Lib.hid hi
  have HO1 := Lib.hid (own_below HO.out hb1)
  have HB1 := Lib.hid hb1
  clear hi hb1
  cases D with
  | true =>
    have HL : Hid (insU l x = l) := Lib.hid (if_pos (of_decide_eq_true HD.out))
    go_wp2_with fail
    go_ret
    refine ⟨_, rfl, ?_, HB1.out.size, fun b hb _ => HB1.out.block b hb, fun g hg => Or.inl hg, HB1.out.mono hB⟩
    rw [HL.out, HM.out]
    exact HO1.out
  | false =>
    have HL : Hid (insU l x = insB l x) := Lib.hid (if_neg (of_decide_eq_false HD.out))
    have NE1 : (Value.slice ao n ac).ownBlock ≠ some w1.heap.size := fun h => by have := (HO1.out.lt _ h).2; omega
    have hB1 : B ≤ w1.heap.size := Nat.le_trans hB HB1.out.size
    go_wp2_with fail
    refine (insert_i64 _ n i B w1.heap.size (l.map (Value.int .i64)) [.int .i64 x] _ (HO1.out.alloc _) (heap_alloc_new w1 _) rfl NE1 hin (by omega) (by simp; omega) (Sort64.ints_one _) (by intro y hy; simp at hy; rw [hy]; rfl)).mono ?_
    rintro e w6 ⟨v6, rfl, hown6, hg6, hat6⟩
    rw [← HI.out, show (l.map (Value.int .i64)).take (cntLt x l * 1) ++ ([Value.int .i64 x] ++ (l.map (Value.int .i64)).drop (cntLt x l * 1)) = (insB l x).map (Value.int .i64) from by
      rw [← insS_insB HSR.out, Nat.mul_one]
      unfold insS
      rw [List.map_append, List.map_cons, List.map_take, List.map_drop]
      rfl] at hown6
    have hlen : (insB l x).length = n + 1 := by rw [insB_len, HM.out]
    have hsz : w1.heap.size ≤ w6.heap.size := by have := hg6.size; simp at this; omega
    have hbl : Below B w w6 := Below.grown ((HB1.out.mono hB).alloc hB1 _) hg6 (by simp; omega) (fun k hk => (HO1.out.lt k hk).1)
    have HF : Hid (RFt B (.slice ao n ac) v6 w w6) := Lib.hid ⟨Nat.le_trans HB1.out.size hsz, fun b hb hv => by
        have h1 := HB1.out.size
        rw [hg6.block b (by simp; omega) (fun e => hv e.symm), Below.heap_alloc _ _ _ (by omega), HB1.out.block b hb], fun g hg => by
        rcases hat6 with h5 | ⟨b, h5, h6⟩
        · exact Or.inl (by rw [← h5]; exact hg)
        · rw [hg] at h5
          have h1 := HB1.out.size
          simp at h5 h6
          exact Or.inr (by omega), hbl⟩
    obtain ⟨ao6, c6, rfl, -, -, -⟩ := own_shape hown6
    have HO6 := Lib.hid hown6
    clear hown6 hg6 hat6 hbl
    go_wp2_with fail
    go_ret
    refine ⟨_, rfl, ?_, HF.out⟩
    rw [HL.out, hlen]
    exact HO6.out
/-- The program's shard. -/
structure PAt (B hb : Nat) (s : Hd) (vh vn vl : Value) (w : World) : Prop where
  box : w.heap[hb]? = some (.cells #[.int .i64 s.e, .string s.o, .string s.t, vh, vn, vl] 168 (0, 0))
  has : w.ownsRow B 2 1 vh s.has.length (s.has.map (Value.int .i64))
  nxt : w.ownsRow B 2 1 vn s.next.length (s.next.map (Value.int .i64))
  lft : Ns w vl s.left
  lfb : ∀ g, vl.ownBlock = some g → (∃ cs fr, w.heap[g]? = some (.cells cs 2 fr)) ∧ vh.ownBlock ≠ some g ∧ vn.ownBlock ≠ some g
  ap : vh.ownBlock = none ∨ vh.ownBlock ≠ vn.ownBlock
  low : B ≤ hb ∧ B ≤ w.heap.size
/-- What an act of it may turn. -/
structure Ft (B hb : Nat) (vh vn vh' vn' : Value) (w w' : World) : Prop where
  size : w.heap.size ≤ w'.heap.size
  keep : ∀ b, b < w.heap.size → b ≠ hb → vh.ownBlock ≠ some b → vn.ownBlock ≠ some b → w'.heap[b]? = w.heap[b]?
  lies : ∀ g, vh'.ownBlock = some g ∨ vn'.ownBlock = some g → vh.ownBlock = some g ∨ vn.ownBlock = some g ∨ w.heap.size ≤ g
  bel : Below B w w'
theorem Ft.trans {B hb : Nat} {vh vn vh1 vn1 vh2 vn2 : Value} {w w1 w2 : World} (h1 : Ft B hb vh vn vh1 vn1 w w1) (h2 : Ft B hb vh1 vn1 vh2 vn2 w1 w2) : Ft B hb vh vn vh2 vn2 w w2 :=
  ⟨Nat.le_trans h1.size h2.size, fun b hlt hne hh hn => by
    refine (h2.keep b (Nat.lt_of_lt_of_le hlt h1.size) hne (fun e => ?_) (fun e => ?_)).trans (h1.keep b hlt hne hh hn)
    · rcases h1.lies b (Or.inl e) with h | h | h
      · exact hh h
      · exact hn h
      · omega
    · rcases h1.lies b (Or.inr e) with h | h | h
      · exact hh h
      · exact hn h
      · omega, fun g hg => by
    rcases h2.lies g hg with h | h | h
    · exact h1.lies g (Or.inl h)
    · exact h1.lies g (Or.inr h)
    · exact Or.inr (Or.inr (Nat.le_trans h1.size h)), h1.bel.trans h2.bel⟩
theorem Ft.of_below {B hb : Nat} {vh vn : Value} {w w' : World} (h : Below w.heap.size w w') (hB : B ≤ w.heap.size) : Ft B hb vh vn vh vn w w' := ⟨h.size, fun b hlt _ _ _ => h.block b hlt, fun g hg => hg.elim Or.inl (fun h => Or.inr (Or.inl h)), h.mono hB⟩
section
variable {B hb : Nat} {s : Hd} {vh vn vl : Value} {w w' : World}
theorem PAt.hlt (h : PAt B hb s vh vn vl w) : hb < w.heap.size := (Array.getElem?_eq_some_iff.1 h.box).1
theorem PAt.lfk (h : PAt B hb s vh vn vl w) (hk : ∀ (b : Nat) (cs : Array Value) (fr : Nat × Nat), vl.ownBlock = some b → w.heap[b]? = some (.cells cs 2 fr) → w'.heap[b]? = w.heap[b]?) : Ns w' vl s.left ∧ ∀ g, vl.ownBlock = some g → (∃ cs fr, w'.heap[g]? = some (.cells cs 2 fr)) ∧ vh.ownBlock ≠ some g ∧ vn.ownBlock ≠ some g :=
  ⟨ns_same h.lft (fun g hg _ => by
    obtain ⟨⟨cs, fr, h1⟩, -⟩ := h.lfb g hg
    exact hk g cs fr hg h1), fun g hg => by
    obtain ⟨⟨cs, fr, h1⟩, h2⟩ := h.lfb g hg
    exact ⟨⟨cs, fr, (hk g cs fr hg h1).trans h1⟩, h2⟩⟩
theorem PAt.below (h : PAt B hb s vh vn vl w) (hw : Below w.heap.size w w') : PAt B hb s vh vn vl w' := by
  obtain ⟨h1, h2⟩ := h.lfk (w' := w') (fun b cs fr _ hb' => hw.block b (Array.getElem?_eq_some_iff.1 hb').1)
  exact ⟨(hw.block _ h.hlt).trans h.box, own_below h.has hw, own_below h.nxt hw, h1, h2, h.ap, h.low.1, Nat.le_trans h.low.2 hw.size⟩
theorem row_at {v : Value} {n : Nat} {xs : List Value} (ho : w.ownsRow B 2 1 v n xs) {g : Nat} (hg : v.ownBlock = some g) : ∃ cs fr, w.heap[g]? = some (.cells cs 2 fr) := by
  rcases ho.2 with ⟨rfl, -⟩ | ⟨g', cap, cur, rfl, -, hgg, -⟩
  · simp [Value.ownBlock] at hg
  · have : g' = g := by simpa [Value.ownBlock] using hg
    subst this
    exact ⟨_, _, hgg⟩
/-- All stays of what is not of another kind. -/
theorem PAt.stays (h : PAt B hb s vh vn vl w) (hsz : w.heap.size ≤ w'.heap.size) (hk : ∀ (b : Nat) (cs : Array Value) (T : TypeId) (fr : Nat × Nat), w.heap[b]? = some (.cells cs T fr) → T ≠ 77 → w'.heap[b]? = w.heap[b]?) : PAt B hb s vh vn vl w' := by
  have hrow : ∀ {v : Value} {n : Nat} {xs : List Value}, w.ownsRow B 2 1 v n xs → ∀ g, v.ownBlock = some g → w'.heap[g]? = w.heap[g]? := fun {v n xs} ho g hg => by
    obtain ⟨cs, fr, h1⟩ := row_at ho hg
    exact hk _ _ _ _ h1 (by decide)
  obtain ⟨h1, h2⟩ := h.lfk (w' := w') (fun b cs fr _ hb' => hk b cs _ fr hb' (by decide))
  exact ⟨(hk _ _ _ _ h.box (by decide)).trans h.box, own_same h.has (hrow h.has), own_same h.nxt (hrow h.nxt), h1, h2, h.ap, h.low.1, Nat.le_trans h.low.2 hsz⟩
theorem ne_box {v : Value} {n : Nat} {xs : List Value} (h : PAt B hb s vh vn vl w) (ho : w.ownsRow B 2 1 v n xs) : v.ownBlock ≠ some hb := own_block_ne ho h.box (by decide)
theorem PAt.nebox (h : PAt B hb s vh vn vl w) {g : Nat} (hg : vl.ownBlock = some g) : g ≠ hb := fun e => by
  obtain ⟨⟨cs, fr, h1⟩, -⟩ := h.lfb g hg
  rw [e, h.box] at h1
  simp only [Option.some.injEq, Obj.cells.injEq] at h1
  exact absurd h1.2.1 (by decide)
/-- The owner's row is replaced, and put into the box. -/
theorem PAt.putHas {v' : Value} {l' : List Int} (h : PAt B hb s vh vn vl w) (hf : RFt B vh v' w w') (ho : w'.ownsRow B 2 1 v' l'.length (l'.map (Value.int .i64))) :
    PAt B hb ⟨s.e, s.o, s.t, l', s.next, s.left⟩ v' vn vl (w'.setCell ⟨hb, 3, none⟩ v') ∧ Ft B hb vh vn v' vn w (w'.setCell ⟨hb, 3, none⟩ v') := by
  have hbx := (hf.keep hb h.hlt (ne_box h h.has)).trans h.box
  have hnv : ∀ g, vn.ownBlock = some g → w'.heap[g]? = w.heap[g]? := fun g hg => hf.keep g (h.nxt.lt g hg).2 (fun e => by
    rcases h.ap with h1 | h1
    · rw [h1] at e; simp at e
    · exact h1 (by rw [e, hg]))
  obtain ⟨h1, h2⟩ := h.lfk (w' := w'.setCell ⟨hb, 3, none⟩ v') (fun b cs fr hg hb' => by
    rw [Below.heap_setCell w' ⟨hb, 3, none⟩ v' b (h.nebox hg)]
    exact hf.keep b (Array.getElem?_eq_some_iff.1 hb').1 (h.lfb b hg).2.1)
  refine ⟨⟨by simpa using row_setCell 3 v' hbx, ownsRow_setCell_other ho (a := ⟨hb, 3, none⟩) (own_block_ne ho hbx (by decide)) _, ownsRow_setCell_other (own_same h.nxt hnv) (a := ⟨hb, 3, none⟩) (ne_box h h.nxt) _, h1, fun g hg => ⟨(h2 g hg).1, fun e => ?_, (h2 g hg).2.2⟩, ?_, h.low.1, by simpa using Nat.le_trans h.low.2 hf.size⟩, ⟨by simpa using hf.size, fun b hlt hne hh hn => ?_, fun g hg => ?_, hf.bel.setCell (p := ⟨hb, 3, none⟩) h.low.1 _⟩⟩
  · obtain ⟨⟨cs, fr, h5⟩, h6, -⟩ := h.lfb g hg
    rcases hf.lies g e with h7 | h7
    · exact h6 h7
    · have := (Array.getElem?_eq_some_iff.1 h5).1
      omega
  · cases hv : v'.ownBlock with
    | none => exact Or.inl rfl
    | some g =>
      refine Or.inr fun e => ?_
      rcases hf.lies g hv with h7 | h7
      · rcases h.ap with h8 | h8
        · rw [h8] at h7; simp at h7
        · exact h8 (by rw [h7, e])
      · have := (h.nxt.lt g e.symm).2
        omega
  · rw [Below.heap_setCell w' ⟨hb, 3, none⟩ v' b (fun e => hne e)]
    exact hf.keep b hlt hh
  · rcases hg with hg | hg
    · rcases hf.lies g hg with h7 | h7
      · exact Or.inl h7
      · exact Or.inr (Or.inr h7)
    · exact Or.inr (Or.inl hg)
/-- The other one's row is replaced, and put into the box. -/
theorem PAt.putNext {v' : Value} {l' : List Int} (h : PAt B hb s vh vn vl w) (hf : RFt B vn v' w w') (ho : w'.ownsRow B 2 1 v' l'.length (l'.map (Value.int .i64))) :
    PAt B hb ⟨s.e, s.o, s.t, s.has, l', s.left⟩ vh v' vl (w'.setCell ⟨hb, 4, none⟩ v') ∧ Ft B hb vh vn vh v' w (w'.setCell ⟨hb, 4, none⟩ v') := by
  have hbx := (hf.keep hb h.hlt (ne_box h h.nxt)).trans h.box
  have hnv : ∀ g, vh.ownBlock = some g → w'.heap[g]? = w.heap[g]? := fun g hg => hf.keep g (h.has.lt g hg).2 (fun e => by
    rcases h.ap with h1 | h1
    · rw [h1] at hg; simp at hg
    · exact h1 (by rw [e, hg]))
  obtain ⟨h1, h2⟩ := h.lfk (w' := w'.setCell ⟨hb, 4, none⟩ v') (fun b cs fr hg hb' => by
    rw [Below.heap_setCell w' ⟨hb, 4, none⟩ v' b (h.nebox hg)]
    exact hf.keep b (Array.getElem?_eq_some_iff.1 hb').1 (h.lfb b hg).2.2)
  refine ⟨⟨by simpa using row_setCell 4 v' hbx, ownsRow_setCell_other (own_same h.has hnv) (a := ⟨hb, 4, none⟩) (ne_box h h.has) _, ownsRow_setCell_other ho (a := ⟨hb, 4, none⟩) (own_block_ne ho hbx (by decide)) _, h1, fun g hg => ⟨(h2 g hg).1, (h2 g hg).2.1, fun e => ?_⟩, ?_, h.low.1, by simpa using Nat.le_trans h.low.2 hf.size⟩, ⟨by simpa using hf.size, fun b hlt hne hh hn => ?_, fun g hg => ?_, hf.bel.setCell (p := ⟨hb, 4, none⟩) h.low.1 _⟩⟩
  · obtain ⟨⟨cs, fr, h5⟩, -, h6⟩ := h.lfb g hg
    rcases hf.lies g e with h7 | h7
    · exact h6 h7
    · have := (Array.getElem?_eq_some_iff.1 h5).1
      omega
  · cases hv : vh.ownBlock with
    | none => exact Or.inl rfl
    | some g =>
      refine Or.inr fun e => ?_
      rcases hf.lies g e.symm with h7 | h7
      · rcases h.ap with h8 | h8
        · rw [h8] at hv; simp at hv
        · exact h8 (by rw [h7, hv])
      · have := (h.has.lt g hv).2
        omega
  · rw [Below.heap_setCell w' ⟨hb, 4, none⟩ v' b (fun e => hne e)]
    exact hf.keep b hlt hn
  · rcases hg with hg | hg
    · exact Or.inl hg
    · rcases hf.lies g hg with h7 | h7
      · exact Or.inr (Or.inl h7)
      · exact Or.inr (Or.inr h7)
theorem PAt.setBox (h : PAt B hb s vh vn vl w) (i : Nat) (x : Value) : Ft B hb vh vn vh vn w (w.setCell ⟨hb, i, none⟩ x) :=
  ⟨by simp, fun b hlt hne _ _ => Below.heap_setCell w ⟨hb, i, none⟩ x b (fun e => hne e), fun g hg => hg.elim Or.inl (fun h => Or.inr (Or.inl h)), (Below.refl _ _).setCell (p := ⟨hb, i, none⟩) h.low.1 _⟩
end
end Go.Proofs.Ytcljeedmiobepaa.Hd
