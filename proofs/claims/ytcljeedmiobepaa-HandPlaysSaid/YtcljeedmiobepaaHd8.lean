/-
  A shard of the reference: the walks of its acts.
-/
import Derived.Test.YtcljeedmiobepaaHd7
namespace Go.Proofs.Ytcljeedmiobepaa.Hd
open Go.RowKit Go.Gh Go.Maps Go.WideShapes Go.Proofs.Ytcljeedmiobepaa.Rk
set_option linter.unusedVariables false
theorem zeroB (w : World) : (zeroValue 4).run Try.prog w = .ok (.bool false) w := by kernel_rfl
theorem keyI {x : Int} (h : -9223372036854775808 ≤ x ∧ x ≤ 9223372036854775807) : keyOf Try.prog 2 (.int .i64 x) = some (kI x) := keyOf_int_mk Try.underlying2 (by simp [Lit.wf, IntKind.min, IntKind.max, IntKind.signed, IntKind.bits]; omega)
section
variable {B mb bh : Nat} {s s' : Hd} {mn vl : Value} {w w' : World}
theorem RAt.nemap (h : RAt B mb bh s mn vl w) {b : Nat} {es : Array MapEntry} {clock : Nat} (hb : w.heap[b]? = some (Obj.map es clock)) : b ≠ mb := fun e => by
  rw [e, h.box] at hb
  simp at hb
theorem RAt.rebox0 {bh' : Nat} {mn' vl' : Value} (h : RAt B mb bh s mn vl w) (ob : OB B mb w w') (hbox : w'.heap[mb]? = some (.cells #[.int .i64 s'.e, .string s'.o, .string s'.t, .map (some bh'), mn', vl'] 77 (0, 0))) (h1 : Mp w bh' s'.has)
    (h2 : (s'.t.toList = [] ∧ mn' = .map none ∧ s'.next = [] ∧ s'.left = []) ∨ (¬ s'.t.toList = [] ∧ ∃ bn, mn' = .map (some bn) ∧ bn ≠ bh' ∧ B ≤ bn ∧ Mp w bn s'.next)) (h3 : Ns w vl' s'.left) (h4 : ∀ g, vl'.ownBlock = some g → ∃ cs fr, w.heap[g]? = some (.cells cs 2 fr)) (hB : B ≤ bh') :
    RAt B mb bh' s' mn' vl' w' ∧ Gt B vl vl w w' := by
  have hcell : ∀ {g : Nat} {cs : Array Value} {T : TypeId} {fr : Nat × Nat}, w.heap[g]? = some (.cells cs T fr) → T ≠ 77 → w'.heap[g]? = w.heap[g]? := fun {g cs T fr} hg hT => ob.keep g (fun e => by
    rw [e, h.box] at hg
    simp only [Option.some.injEq, Obj.cells.injEq] at hg
    exact hT hg.2.1.symm)
  have hmp : ∀ {b : Nat} {l : List Int}, Mp w b l → Mp w' b l := fun {b l} hm => by
    obtain ⟨es, clock, h7⟩ := hm.at
    exact hm.same (ob.keep b (h.nemap h7))
  refine ⟨⟨hbox, hmp h1, ?_, ns_same h3 (fun g hg _ => ?_), fun g hg => ?_, h.low.1, hB, by rw [ob.sz]; exact h.low.2.2⟩, ⟨by rw [ob.sz]; exact Nat.le_refl _, fun b cs T fr hb hT => hcell hb hT, fun g hg => Or.inl hg, ob.bel⟩⟩
  · rcases h2 with h6 | ⟨h6, bn, e, hne, hB', hm⟩
    · exact Or.inl h6
    · exact Or.inr ⟨h6, bn, e, hne, hB', hmp hm⟩
  · obtain ⟨cs, fr, h6⟩ := h4 g hg
    exact hcell h6 (by decide)
  · obtain ⟨cs, fr, h6⟩ := h4 g hg
    exact ⟨cs, fr, (hcell h6 (by decide)).trans h6⟩
theorem RAt.rebox {bh' : Nat} {mn' vl' : Value} (h : RAt B mb bh s mn vl w) (ob : OB B mb w w') (hbox : w'.heap[mb]? = some (.cells #[.int .i64 s'.e, .string s'.o, .string s'.t, .map (some bh'), mn', vl'] 77 (0, 0))) (h1 : Mp w bh' s'.has)
    (h2 : (s'.t.toList = [] ∧ mn' = .map none ∧ s'.next = [] ∧ s'.left = []) ∨ (¬ s'.t.toList = [] ∧ ∃ bn, mn' = .map (some bn) ∧ bn ≠ bh' ∧ B ≤ bn ∧ Mp w bn s'.next)) (h3 : Ns w vl' s'.left) (h4 : ∀ g, vl'.ownBlock = some g → ∃ cs fr, w.heap[g]? = some (.cells cs 2 fr)) (hB : B ≤ bh') (h5 : ∀ g, vl'.ownBlock = some g → vl.ownBlock = some g ∨ w.heap.size ≤ g) :
    RAt B mb bh' s' mn' vl' w' ∧ Gt B vl vl' w w' :=
  ⟨(h.rebox0 ob hbox h1 h2 h3 h4 hB).1, ⟨(h.rebox0 ob hbox h1 h2 h3 h4 hB).2.size, (h.rebox0 ob hbox h1 h2 h3 h4 hB).2.keep, h5, (h.rebox0 ob hbox h1 h2 h3 h4 hB).2.bel⟩⟩
/-- A map is written. -/
theorem RAt.turned {b : Nat} (h : RAt B mb bh s mn vl w) (hg : w.grownBy w' (some b)) (hB : B ≤ b) {es : Array MapEntry} {clock : Nat} (hb : w.heap[b]? = some (Obj.map es clock)) : Gt B vl vl w w' ∧ w'.heap[mb]? = w.heap[mb]? :=
  ⟨⟨hg.size, fun c cs T fr hc _ => hg.block c (Array.getElem?_eq_some_iff.1 hc).1 (fun e => by
    have : c = b := by simpa using e
    rw [this, hb] at hc
    simp at hc), fun g hg' => Or.inl hg', Below.grown (Below.refl _ _) hg h.low.2.2 (fun k hk => by simp at hk; omega)⟩, hg.block mb h.mlt (fun e => h.nemap hb (by simpa using e.symm))⟩
theorem RAt.putHas {l' : List Int} (h : RAt B mb bh s mn vl w) (hg : w.grownBy w' (some bh)) (hm : Mp w' bh l') : RAt B mb bh ⟨s.e, s.o, s.t, l', s.next, s.left⟩ mn vl w' ∧ Gt B vl vl w w' := by
  obtain ⟨es, clock, hb⟩ := h.has.at
  obtain ⟨h1, h2⟩ := h.turned hg h.low.2.1 hb
  refine ⟨⟨h2.trans h.box, hm, ?_, ns_same h.lft (fun g hg' _ => ?_), fun g hg' => ?_, h.low.1, h.low.2.1, Nat.le_trans h.low.2.2 hg.size⟩, h1⟩
  · rcases h.nxt with h6 | ⟨h6, bn, e, hne, hB', hm'⟩
    · exact Or.inl h6
    · obtain ⟨es', clock', hb'⟩ := hm'.at
      exact Or.inr ⟨h6, bn, e, hne, hB', hm'.same (hg.block bn (Array.getElem?_eq_some_iff.1 hb').1 (fun e => hne (by simpa using e)))⟩
  · obtain ⟨cs, fr, h6⟩ := h.lfb g hg'
    exact h1.keep g cs _ fr h6 (by decide)
  · obtain ⟨cs, fr, h6⟩ := h.lfb g hg'
    exact ⟨cs, fr, (h1.keep g cs _ fr h6 (by decide)).trans h6⟩
theorem RAt.putNext {bn : Nat} {l' : List Int} (h : RAt B mb bh s (.map (some bn)) vl w) (hne : bn ≠ bh) (hB : B ≤ bn) (ht : ¬ s.t.toList = []) (hn : Mp w bn s.next) (hg : w.grownBy w' (some bn)) (hm : Mp w' bn l') : RAt B mb bh ⟨s.e, s.o, s.t, s.has, l', s.left⟩ (.map (some bn)) vl w' ∧ Gt B vl vl w w' := by
  obtain ⟨es, clock, hb⟩ := hn.at
  obtain ⟨h1, h2⟩ := h.turned hg hB hb
  obtain ⟨es', clock', hb'⟩ := h.has.at
  refine ⟨⟨h2.trans h.box, h.has.same (hg.block bh (Array.getElem?_eq_some_iff.1 hb').1 (fun e => hne (by simpa using e.symm))), Or.inr ⟨ht, bn, rfl, hne, hB, hm⟩, ns_same h.lft (fun g hg' _ => ?_), fun g hg' => ?_, h.low.1, h.low.2.1, Nat.le_trans h.low.2.2 hg.size⟩, h1⟩
  · obtain ⟨cs, fr, h6⟩ := h.lfb g hg'
    exact h1.keep g cs _ fr h6 (by decide)
  · obtain ⟨cs, fr, h6⟩ := h.lfb g hg'
    exact ⟨cs, fr, (h1.keep g cs _ fr h6 (by decide)).trans h6⟩
end
def RPost (B mb : Nat) (vl : Value) (r : Value) (s' : Hd) (w : World) (e : Ending) (w' : World) : Prop := e = .returned r ∧ ∃ bh' mn' vl', RAt B mb bh' s' mn' vl' w' ∧ Gt B vl vl' w w'
theorem rp_still {B mb bh : Nat} {s : Hd} {mn vl r : Value} {w w' : World} (h : RAt B mb bh s mn vl w) (hw : Below w.heap.size w w') : RPost B mb vl r s w (.returned r) w' := ⟨rfl, bh, mn, vl, h.below hw, Gt.of_below hw h.low.2.2⟩
theorem tl_noB : noB.toList = [] := by rw [ByteArray.toList_eq]; rfl
set_option maxRecDepth 100000 in
theorem rcrash0_any (mb : Nat) (T : TypeId) (a b c d e f : Value) (w : World) (h : w.heap[mb]? = some (.cells #[a, b, c, d, e, f] T (0, 0))) : Calls Try.prog 44 #[.pointer (some ⟨mb, 0, none⟩)] w fun e w' => e = .returned (.tuple #[]) ∧ w' = ((w.setCell ⟨mb, 2, none⟩ (.string noB)).setCell ⟨mb, 4, none⟩ (.map none)).setCell ⟨mb, 5, none⟩ (.slice none 0 0) := by
  obtain ⟨-, ⟨f0, f1, f2, f3, f4, f5⟩⟩ := bx6 h
  obtain ⟨⟨d0, d1, d2, d3, d4, d5⟩, -⟩ := bx6 h
  clear h
  go_enter Try.func44, Try.ntmps44
  go_wp2_with fail
  go_end0
  exact ⟨rfl, rfl⟩
theorem RAt.crash {B mb bh : Nat} {s : Hd} {mn vl : Value} {w : World} (h : RAt B mb bh s mn vl w) :
    RAt B mb bh (crH s) (.map none) (.slice none 0 0) (((w.setCell ⟨mb, 2, none⟩ (.string noB)).setCell ⟨mb, 4, none⟩ (.map none)).setCell ⟨mb, 5, none⟩ (.slice none 0 0)) ∧ Gt B vl (.slice none 0 0) w (((w.setCell ⟨mb, 2, none⟩ (.string noB)).setCell ⟨mb, 4, none⟩ (.map none)).setCell ⟨mb, 5, none⟩ (.slice none 0 0)) := by
  have b1 := row_setCell 2 (.string noB) h.box
  have b2 := row_setCell 4 (.map none) b1
  have b3 : (((w.setCell ⟨mb, 2, none⟩ (.string noB)).setCell ⟨mb, 4, none⟩ (.map none)).setCell ⟨mb, 5, none⟩ (.slice none 0 0)).heap[mb]? = some (.cells #[.int .i64 s.e, .string s.o, .string noB, .map (some bh), .map none, .slice none 0 0] 77 (0, 0)) := by simpa using row_setCell 5 (.slice none 0 0) b2
  exact h.rebox (s' := crH s) ((((OB.refl B mb w).set h.low.1 2 _).set h.low.1 4 _).set h.low.1 5 _) b3 h.has (Or.inl ⟨tl_noB, rfl, rfl, rfl⟩) ns_nil (fun g hg => by simp [Value.ownBlock] at hg) h.low.2.1 (fun g hg => by simp [Value.ownBlock] at hg)
set_option maxRecDepth 100000 in
theorem rcrash_any (B mb bh : Nat) (s : Hd) (mn vl : Value) (w : World) (h : RAt B mb bh s mn vl w) : Calls Try.prog 44 #[.pointer (some ⟨mb, 0, none⟩)] w (RPost B mb vl (.tuple #[]) (crH s) w) :=
  (rcrash0_any mb _ _ _ _ _ _ _ w h.box).mono (fun e w' ⟨he, hw⟩ => ⟨he, bh, .map none, .slice none 0 0, by rw [hw]; exact h.crash⟩)
set_option maxRecDepth 100000 in
theorem rabort_any (B mb bh : Nat) (s : Hd) (mn vl : Value) (w : World) (h : RAt B mb bh s mn vl w) : Calls Try.prog 42 #[.pointer (some ⟨mb, 0, none⟩)] w (RPost B mb vl (.int .i64 (abH s).1) (abH s).2 w) := by
  have HP := Lib.hid h
  obtain ⟨R, hR⟩ : ∃ R, abH s = R := ⟨_, rfl⟩
  have HR := Lib.hid hR
  rw [hR]
  obtain ⟨⟨d0, d1, d2, d3, d4, d5⟩, -⟩ := bx6 h.box
  clear h hR
  by_cases ht : s.t.toList = []
  · have HE : Hid (R = (15, s)) := Lib.hid (by rw [← HR.out]; exact if_pos ht)
    have t1 : s.t.toList.isEmpty = true := (emp_iff _).1 ht
    go_enter Try.func42, Try.ntmps42
    go_wp2_with fail
    go_ret
    rw [HE.out]
    exact rp_still HP.out (Below.refl _ _)
  · have HE : Hid (R = (0, crH s)) := Lib.hid (by rw [← HR.out]; exact if_neg ht)
    have t1 : s.t.toList.isEmpty = false := by cases h : s.t.toList.isEmpty with | false => rfl | true => exact absurd ((emp_iff _).2 h) ht
    go_enter Try.func42, Try.ntmps42
    go_wp2_with fail
    refine (rcrash_any B mb bh s mn vl _ HP.out).mono ?_
    rintro e w1 ⟨rfl, bh', mn', vl', hp, hf⟩
    have HP1 := Lib.hid hp
    have HF1 := Lib.hid hf
    clear hp hf d0 d1 d2 d3 d4 d5
    go_wp2_with fail
    go_ret
    rw [HE.out]
    exact ⟨rfl, _, _, _, HP1.out, HF1.out⟩
end Go.Proofs.Ytcljeedmiobepaa.Hd
