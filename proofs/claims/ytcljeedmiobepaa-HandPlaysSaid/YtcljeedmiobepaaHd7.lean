/-
  A shard of the reference: what stands in memory; the walk of InOrder.
-/
import Derived.Test.YtcljeedmiobepaaHd6
import Derived.Test.YtcljeedmiobepaaHdMap
import Derived.Maps.OwnOps
import Derived.Maps.RangeWalk
namespace Go.Proofs.Ytcljeedmiobepaa.Hd
open Go.RowKit Go.Gh Go.Maps Go.WideShapes Go.Proofs.Ytcljeedmiobepaa.Rk
set_option linter.unusedVariables false
theorem lawI : Keyed Try.prog 2 := int_keyed Try.underlying2
noncomputable abbrev RB : Value → Option (DU × List MemPlace) := plainElem Try.prog 4
def Mp (w : World) (b : Nat) (l : List Int) : Prop := ∃ D : DU, w.ownsMap Try.prog 2 RB b l.length D ∧ MapIs D l
theorem map_tight {H : Type} {P : Program} {k : TypeId} {R : Value → Option (DataW H × List MemPlace)} {w : World} {b n : Nat} {D : DataW H} (h : w.ownsMap P k R b n D) : w.ownsMap P k R b (Maps.size D) D := by
  obtain ⟨es, clock, hb, F, hs, rfl⟩ := h
  exact ⟨es, clock, hb, F, by rw [size_eq, length_read]; exact Nat.le_refl _, rfl⟩
theorem Mp.at {w : World} {b : Nat} {l : List Int} (h : Mp w b l) : ∃ es clock, w.heap[b]? = some (.map es clock) := by
  obtain ⟨D, ⟨es, clock, hb, -⟩, -⟩ := h
  exact ⟨es, clock, hb⟩
theorem Mp.same {w w' : World} {b : Nat} {l : List Int} (h : Mp w b l) (hk : w'.heap[b]? = w.heap[b]?) : Mp w' b l := by
  obtain ⟨D, ⟨es, clock, hb, h1⟩, h2⟩ := h
  exact ⟨D, ⟨es, clock, hk.trans hb, h1⟩, h2⟩
theorem Mp.made (w : World) : Mp (w.alloc (.map #[] 0)) w.heap.size [] := ⟨.map [], World.ownsMap_made w _ _ _, MapIs.empty⟩
theorem Mp.put {w' : World} {b : Nat} {l : List Int} {x : Int} {D : DU} {n : Nat} (h : w'.ownsMap Try.prog 2 RB b n (D.put (kI x) (.lit (.bool true)))) (hm : MapIs D l) : Mp w' b (insU l x) := by
  have h2 := hm.put x
  refine ⟨_, ?_, h2⟩
  have := map_tight h
  rwa [h2.size] at this
/-- The reference's shard. -/
structure RAt (B mb bh : Nat) (s : Hd) (mn vl : Value) (w : World) : Prop where
  box : w.heap[mb]? = some (.cells #[.int .i64 s.e, .string s.o, .string s.t, .map (some bh), mn, vl] 77 (0, 0))
  has : Mp w bh s.has
  nxt : (s.t.toList = [] ∧ mn = .map none ∧ s.next = [] ∧ s.left = []) ∨ (¬ s.t.toList = [] ∧ ∃ bn, mn = .map (some bn) ∧ bn ≠ bh ∧ B ≤ bn ∧ Mp w bn s.next)
  lft : Ns w vl s.left
  lfb : ∀ g, vl.ownBlock = some g → ∃ cs fr, w.heap[g]? = some (.cells cs 2 fr)
  low : B ≤ mb ∧ B ≤ bh ∧ B ≤ w.heap.size
/-- What an act of it may turn. -/
structure Gt (B : Nat) (vl vl' : Value) (w w' : World) : Prop where
  size : w.heap.size ≤ w'.heap.size
  keep : ∀ (b : Nat) (cs : Array Value) (T : TypeId) (fr : Nat × Nat), w.heap[b]? = some (.cells cs T fr) → T ≠ 77 → w'.heap[b]? = w.heap[b]?
  lies : ∀ g, vl'.ownBlock = some g → vl.ownBlock = some g ∨ w.heap.size ≤ g
  bel : Below B w w'
theorem Gt.trans {B : Nat} {v v1 v2 : Value} {w w1 w2 : World} (h1 : Gt B v v1 w w1) (h2 : Gt B v1 v2 w1 w2) : Gt B v v2 w w2 :=
  ⟨Nat.le_trans h1.size h2.size, fun b cs T fr hb hT => (h2.keep b cs T fr ((h1.keep b cs T fr hb hT).trans hb) hT).trans (h1.keep b cs T fr hb hT), fun g hg => by
    rcases h2.lies g hg with h | h
    · exact h1.lies g h
    · exact Or.inr (Nat.le_trans h1.size h), h1.bel.trans h2.bel⟩
theorem Gt.of_below {B : Nat} {v : Value} {w w' : World} (h : Below w.heap.size w w') (hB : B ≤ w.heap.size) : Gt B v v w w' := ⟨h.size, fun b cs T fr hb _ => h.block b (Array.getElem?_eq_some_iff.1 hb).1, fun g hg => Or.inl hg, h.mono hB⟩
section
variable {B mb bh : Nat} {s : Hd} {mn vl : Value} {w w' : World}
theorem RAt.mlt (h : RAt B mb bh s mn vl w) : mb < w.heap.size := (Array.getElem?_eq_some_iff.1 h.box).1
/-- All stays that it reads. -/
theorem RAt.same (h : RAt B mb bh s mn vl w) (hsz : w.heap.size ≤ w'.heap.size) (h1 : w'.heap[mb]? = w.heap[mb]?) (h2 : ∀ (b : Nat) (es : Array MapEntry) (clock : Nat), w.heap[b]? = some (Obj.map es clock) → w'.heap[b]? = w.heap[b]?) (h3 : ∀ (g : Nat) (cs : Array Value) (fr : Nat × Nat), vl.ownBlock = some g → w.heap[g]? = some (.cells cs 2 fr) → w'.heap[g]? = w.heap[g]?) : RAt B mb bh s mn vl w' := by
  have hmp : ∀ {b : Nat} {l : List Int}, Mp w b l → Mp w' b l := fun {b l} hm => by
    obtain ⟨es, clock, h4⟩ := hm.at
    exact hm.same (h2 b es clock h4)
  refine ⟨h1.trans h.box, hmp h.has, ?_, ns_same h.lft (fun g hg _ => ?_), fun g hg => ?_, h.low.1, h.low.2.1, Nat.le_trans h.low.2.2 hsz⟩
  · rcases h.nxt with h4 | ⟨h4, bn, e, hne, hB, hm⟩
    · exact Or.inl h4
    · exact Or.inr ⟨h4, bn, e, hne, hB, hmp hm⟩
  · obtain ⟨cs, fr, h4⟩ := h.lfb g hg
    exact h3 g cs fr hg h4
  · obtain ⟨cs, fr, h4⟩ := h.lfb g hg
    exact ⟨cs, fr, (h3 g cs fr hg h4).trans h4⟩
theorem RAt.below (h : RAt B mb bh s mn vl w) (hb : Below w.heap.size w w') : RAt B mb bh s mn vl w' :=
  h.same hb.size (hb.block _ h.mlt) (fun b es clock h4 => hb.block b (Array.getElem?_eq_some_iff.1 h4).1) (fun g cs fr _ h4 => hb.block g (Array.getElem?_eq_some_iff.1 h4).1)
/-- The program's acts do not touch it. -/
theorem RAt.stays {B' hb : Nat} {s' : Hd} {vh vn vp vh' vn' : Value} (h : RAt B mb bh s mn vl w) (hp : PAt B' hb s' vh vn vp w) (hf : Ft B' hb vh vn vh' vn' w w') (hap : ∀ g, vl.ownBlock = some g → vh.ownBlock ≠ some g ∧ vn.ownBlock ≠ some g) : RAt B mb bh s mn vl w' := by
  have hrow : ∀ {v : Value} {n : Nat} {xs : List Value} {b : Nat}, w.ownsRow B' 2 1 v n xs → (∀ cs fr, w.heap[b]? ≠ some (.cells cs 2 fr)) → v.ownBlock ≠ some b := fun {v n xs b} ho hn e => by
    obtain ⟨cs, fr, h1⟩ := row_at ho e
    exact hn cs fr h1
  have hne : ∀ {b : Nat} {o : Obj}, w.heap[b]? = some o → (∀ cs fr, o ≠ .cells cs 168 fr) → b ≠ hb := fun {b o} hb' hn e => by
    rw [e, hp.box] at hb'
    exact hn _ _ (Option.some.inj hb').symm
  refine h.same hf.size (hf.keep mb h.mlt (hne h.box (fun cs fr e => ?_)) (hrow hp.has (fun cs fr e => ?_)) (hrow hp.nxt (fun cs fr e => ?_))) (fun b es clock h4 => ?_) (fun g cs fr hg h4 => ?_)
  · simp only [Obj.cells.injEq] at e
    exact absurd e.2.1 (by decide)
  · rw [h.box] at e
    simp only [Option.some.injEq, Obj.cells.injEq] at e
    exact absurd e.2.1 (by decide)
  · rw [h.box] at e
    simp only [Option.some.injEq, Obj.cells.injEq] at e
    exact absurd e.2.1 (by decide)
  · exact hf.keep b (Array.getElem?_eq_some_iff.1 h4).1 (hne h4 (fun cs fr e => by simp at e)) (hrow hp.has (fun cs fr e => by rw [h4] at e; simp at e)) (hrow hp.nxt (fun cs fr e => by rw [h4] at e; simp at e))
  · refine hf.keep g (Array.getElem?_eq_some_iff.1 h4).1 (hne h4 (fun cs' fr' e => ?_)) (hap g hg).1 (hap g hg).2
    simp only [Obj.cells.injEq] at e
    exact absurd e.2.1 (by decide)
end
theorem ranges_below {H : Type} {P : Program} {k : TypeId} {R : Value → Option (DataW H × List MemPlace)} {w w' : World} {b r n cnt : Nat} {D : DataW H} {left : Lit → Bool} (h : w.ranges P k R b r n D left cnt) (hb : Below w.heap.size w w') : w'.ranges P k R b r n D left cnt := by
  obtain ⟨es, clock, since, seen, c0, h1, F, hs, hD, hr, h2⟩ := h
  exact ⟨es, clock, since, seen, c0, (hb.block _ (Array.getElem?_eq_some_iff.1 h1).1).trans h1, F, hs, hD, (hb.block _ (Array.getElem?_eq_some_iff.1 hr).1).trans hr, h2⟩
theorem len_sub : ∀ {a l : List Int}, a.Nodup → (∀ x ∈ a, x ∈ l) → a.length ≤ l.length
  | [], l, _, _ => Nat.zero_le _
  | x :: a, l, h, hs => by
    obtain ⟨h1, h2⟩ := List.nodup_cons.1 h
    have hx := hs x (by simp)
    have ih := len_sub (a := a) (l := l.erase x) h2 (fun y hy => (List.mem_erase_of_ne (fun (e : y = x) => h1 (by rw [← e]; exact hy))).2 (hs y (by simp [hy])))
    rw [List.length_erase_of_mem hx] at ih
    have := List.length_pos_of_mem hx
    rw [List.length_cons]
    omega
theorem _root_.Go.World.ranges.at' {H : Type} {P : Program} {k : TypeId} {R : Value → Option (DataW H × List MemPlace)} {w : World} {b r n cnt : Nat} {D : DataW H} {left : Lit → Bool} (h : w.ranges P k R b r n D left cnt) : ∃ i1 i2 i3 i4, w.heap[r]? = some (.mapIter i1 i2 i3 i4) := by
  obtain ⟨es, clock, since, seen, c0, h1, F, hs, hD, hr, h2⟩ := h
  exact ⟨_, _, _, _, hr⟩
def OPost (l : List Int) (w : World) (e : Ending) (w' : World) : Prop := ∃ v', e = .returned v' ∧ w'.ownsRow w.heap.size 2 1 v' l.length (l.map (Value.int .i64)) ∧ Below w.heap.size w w'
def OutIs (l : List Int) (left : Lit → Bool) (o : List Int) : Prop := Ris o ∧ o.length ≤ l.length ∧ (∀ x, x ∈ o ↔ (x ∈ l ∧ left (kI x) = false))
set_option maxHeartbeats 2000000 in
set_option maxRecDepth 100000 in
theorem inorder_any (b : Nat) (l : List Int) (w : World) (h : Mp w b l) (hr : Ris l) (hn : l.length ≤ 1000) : Calls Try.prog 47 #[.map (some b)] w (OPost l w) := by
  obtain ⟨D, hown, hm⟩ := h
  have HM := Lib.hid hm
  have HR := Lib.hid hr
  have hblt := hown.lt
  clear hm hr
  go_enter Try.func47, Try.ntmps47
  go_wp2_with (first
    | (at_range; refine wpList_range_own _ rfl _ 75 rfl 2 4 lawI Try.underlying75 RB b l.length D rfl hown ?_; intro w0 hrg0 hg0 hs0)
    | go_in)
  go_frame
  have HO0 : Hid (OutIs l (Maps.has D) []) := Lib.hid ⟨List.Pairwise.nil, Nat.zero_le _, fun x => by
    rw [HM.out.mem x]
    simp⟩
  have hbw0 : Below w.heap.size w w0 := Below.grown (Below.refl _ _) hg0 (Nat.le_refl _) (fun k hk => by simp at hk)
  have HRG0 := Lib.hid hrg0
  clear hrg0 hg0 hown
  go_loopw [3, 4] (fun v _ wr => ∃ (left : Lit → Bool) (cnt : Nat) (o : List Int), Hid (wr.ranges Try.prog 2 RB b w.heap.size l.length D left cnt) ∧ Hid (wr.ownsRow w.heap.size 2 1 v o.length (o.map (Value.int .i64))) ∧ Hid (OutIs l left o) ∧ Below w.heap.size w wr) (fun _ _ wr => wr.rangeLeft b w.heap.size)
  case atStart => exact ⟨_, _, [], HRG0, Lib.hid (World.ownsRow_nil _ _ _ _), HO0, hbw0⟩
  case round =>
    obtain ⟨left, cnt, o, HRG, HO, HOUT, hbr⟩ := hrel
    have hrg := HRG.out
    have hol := HOUT.out.2.1
    obtain ⟨q, hq⟩ : ∃ q, o.length = q := ⟨_, rfl⟩
    have hown := HO.out
    rw [hq] at hown hol
    obtain ⟨oo, oc, rfl, -, -, -⟩ := own_shape hown
    have HNS : Hid (Ns wr (.slice oo q oc) o) := Lib.hid (by unfold Ns; rw [hq]; exact own_sl hown)
    have HQ := Lib.hid hq
    have HOW := Lib.hid hown
    clear hq hown HO
    go_wp2_with (first
      | (at_next; refine wpList_next_set _ rfl _ rfl 2 4 lawI Try.underlying2 Try.underlying4 b w.heap.size l.length _ l HM.out _ _ rfl hrg ?_ ?_)
      | go_in)
    · intro hl0
      have hol2 : o = l := ris_uniq HOUT.out.1 HR.out (fun x => by rw [HOUT.out.2.2 x]; exact ⟨fun h => h.1, fun h => ⟨h, hl0 _⟩⟩)
      have HF : Hid (wr.ownsRow w.heap.size 2 1 (.slice oo q oc) l.length (l.map (Value.int .i64))) := Lib.hid (by rw [← hol2, HQ.out]; exact HOW.out)
      clear hrg hl0 hol2
      go_wp2_with fail
      go_ret
      exact ⟨_, rfl, HF.out, hbr⟩
    · intro x w1 cnt1 hxl hlx hrg1 hlt hg1 hs1 hen
      have HXL := Lib.hid hxl
      have HRG1 := Lib.hid hrg1
      have hb1 : Below w.heap.size w w1 := Below.grown hbr hg1 hbr.size (fun k hk => by simp at hk; omega)
      have hns1 : Ns w1 (.slice oo q oc) o := ns_same HNS.out (fun g hg hlt => hg1.block g hlt (fun e => by
        rcases hrg.at' with ⟨i1, i2, i3, i4, h5⟩
        obtain ⟨cs, fr, h6⟩ := row_at HOW.out hg
        simp only [Option.some.injEq] at e
        rw [e, h5] at h6
        simp at h6))
      have HNS1 := Lib.hid hns1
      have HO2 : Hid (OutIs l (fun z => left z && !z.sameKey (kI x)) (insB o x)) := Lib.hid (by
        have hxo : x ∉ o := fun h => by
          have := ((HOUT.out.2.2 x).1 h).2
          rw [hlx] at this
          simp at this
        have hmem : ∀ z, z ∈ insB o x ↔ z = x ∨ z ∈ o := fun z => by rw [(insB_perm o x).mem_iff, List.mem_cons]
        have hris : Ris (insB o x) := by
          have := ris_insU (x := x) HOUT.out.1
          unfold insU at this
          rwa [if_neg hxo] at this
        have hiff : ∀ z, z ∈ insB o x ↔ (z ∈ l ∧ (left (kI z) && !(kI z).sameKey (kI x)) = false) := fun z => by
          rw [hmem, HOUT.out.2.2 z]
          by_cases hz : z = x
          · subst hz
            rw [WideAt.sameKey_self (kI_lit z)]
            simp [hxl]
          · rw [sameKey_ne (fun e => hz (kI_inj e))]
            simp [hz]
        exact ⟨hris, len_sub (ris_nodup hris) (fun z hz => ((hiff z).1 hz).1), hiff⟩)
      clear hrg hrg1 hg1 hxl hlx hns1
      go_wp2_with fail
      refine (inserted_any _ o x _ HNS1.out (by rw [HQ.out]; omega)).mono ?_
      rintro e w5 ⟨v5, rfl, hown5, hb5⟩
      have HRG5 := Lib.hid (ranges_below HRG1.out hb5)
      have HO5 := Lib.hid (own_mono hown5 hb1.size)
      have HB5 := Lib.hid (hb1.trans (hb5.mono hb1.size))
      obtain ⟨q5, hq5⟩ : ∃ q, (insB o x).length = q := ⟨_, rfl⟩
      have hsh := own_shape hown5
      rw [hq5] at hsh
      obtain ⟨o5, c5, rfl, -, -, -⟩ := hsh
      clear hown5 hb5 hq5
      go_wp2_with fail
      go_roundw
      case rel => exact ⟨_, cnt1, insB o x, HRG5, HO5, HO2, HB5.out⟩
      case measure => rw [HRG5.out.left_eq, HRG.out.left_eq]; exact hlt
end Go.Proofs.Ytcljeedmiobepaa.Hd
