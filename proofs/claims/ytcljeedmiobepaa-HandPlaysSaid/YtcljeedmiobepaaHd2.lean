/-
  A shard: the walks of hand's methods.
-/
import Derived.Test.YtcljeedmiobepaaHd1
import Derived.BigRegion
namespace Go.Proofs.Ytcljeedmiobepaa.Hd
open Go.RowKit Go.Gh Go.Proofs.Ytcljeedmiobepaa.Rk
set_option linter.unusedVariables false
theorem PAt.rebox {B hb : Nat} {s s' : Hd} {vh vn vl vh' vn' vl' : Value} {w w' : World} (h : PAt B hb s vh vn vl w) (hsz : w'.heap.size = w.heap.size) (hk : ∀ b, b ≠ hb → w'.heap[b]? = w.heap[b]?) (hbel : Below B w w')
    (hbox : w'.heap[hb]? = some (.cells #[.int .i64 s'.e, .string s'.o, .string s'.t, vh', vn', vl'] 168 (0, 0))) (h1 : w.ownsRow B 2 1 vh' s'.has.length (s'.has.map (Value.int .i64))) (h2 : w.ownsRow B 2 1 vn' s'.next.length (s'.next.map (Value.int .i64)))
    (h3 : Ns w vl' s'.left) (h4 : ∀ g, vl'.ownBlock = some g → (∃ cs fr, w.heap[g]? = some (.cells cs 2 fr)) ∧ vh'.ownBlock ≠ some g ∧ vn'.ownBlock ≠ some g) (h5 : vh'.ownBlock = none ∨ vh'.ownBlock ≠ vn'.ownBlock)
    (h6 : ∀ g, vh'.ownBlock = some g ∨ vn'.ownBlock = some g → vh.ownBlock = some g ∨ vn.ownBlock = some g) : PAt B hb s' vh' vn' vl' w' ∧ Ft B hb vh vn vh' vn' w w' := by
  have hne : ∀ {g : Nat}, (∃ cs fr, w.heap[g]? = some (.cells cs 2 fr)) → g ≠ hb := fun {g} ⟨cs, fr, h7⟩ e => by
    rw [e, h.box] at h7
    simp only [Option.some.injEq, Obj.cells.injEq] at h7
    exact absurd h7.2.1 (by decide)
  refine ⟨⟨hbox, own_same h1 (fun g hg => hk g (hne (row_at h1 hg))), own_same h2 (fun g hg => hk g (hne (row_at h2 hg))), ns_same h3 (fun g hg _ => hk g (hne (h4 g hg).1)), fun g hg => ⟨?_, (h4 g hg).2⟩, h5, h.low.1, by rw [hsz]; exact h.low.2⟩, ⟨by omega, fun b _ hb' _ _ => hk b hb', fun g hg => (h6 g hg).elim Or.inl (fun h => Or.inr (Or.inl h)), hbel⟩⟩
  obtain ⟨cs, fr, h7⟩ := (h4 g hg).1
  exact ⟨cs, fr, (hk g (hne (h4 g hg).1)).trans h7⟩
theorem PAt.crash {B hb : Nat} {s : Hd} {vh vn vl : Value} {w : World} (h : PAt B hb s vh vn vl w) :
    PAt B hb (crH s) vh (.slice none 0 0) (.slice none 0 0) (((w.setCell ⟨hb, 2, none⟩ (.string noB)).setCell ⟨hb, 4, none⟩ (.slice none 0 0)).setCell ⟨hb, 5, none⟩ (.slice none 0 0)) ∧
    Ft B hb vh vn vh (.slice none 0 0) w (((w.setCell ⟨hb, 2, none⟩ (.string noB)).setCell ⟨hb, 4, none⟩ (.slice none 0 0)).setCell ⟨hb, 5, none⟩ (.slice none 0 0)) := by
  have b1 := row_setCell 2 (.string noB) h.box
  have b2 := row_setCell 4 (.slice none 0 0) b1
  have b3 : (((w.setCell ⟨hb, 2, none⟩ (.string noB)).setCell ⟨hb, 4, none⟩ (.slice none 0 0)).setCell ⟨hb, 5, none⟩ (.slice none 0 0)).heap[hb]? = some (.cells #[.int .i64 s.e, .string s.o, .string noB, vh, .slice none 0 0, .slice none 0 0] 168 (0, 0)) := by simpa using row_setCell 5 (.slice none 0 0) b2
  refine h.rebox (by simp) (fun b hne => ?_) ((((Below.refl _ _).setCell (p := ⟨hb, 2, none⟩) h.low.1 _).setCell (p := ⟨hb, 4, none⟩) h.low.1 _).setCell (p := ⟨hb, 5, none⟩) h.low.1 _) b3 h.has (World.ownsRow_nil _ _ _ _) ns_nil (fun g hg => by simp [Value.ownBlock] at hg) ?_ (fun g hg => hg.elim Or.inl (fun e => by simp [Value.ownBlock] at e))
  · rw [Below.heap_setCell _ ⟨hb, 5, none⟩ _ b (fun e => hne e), Below.heap_setCell _ ⟨hb, 4, none⟩ _ b (fun e => hne e), Below.heap_setCell _ ⟨hb, 2, none⟩ _ b (fun e => hne e)]
  · cases hv : vh.ownBlock with
    | none => exact Or.inl rfl
    | some g => exact Or.inr (by simp [Value.ownBlock])
/-- An act's answer, and what it leaves. -/
def PPost (B hb : Nat) (vh vn : Value) (r : Value) (s' : Hd) (w : World) (e : Ending) (w' : World) : Prop := e = .returned r ∧ ∃ vh' vn' vl', PAt B hb s' vh' vn' vl' w' ∧ Ft B hb vh vn vh' vn' w w'
theorem pp_still {B hb : Nat} {s : Hd} {vh vn vl r : Value} {w w' : World} (h : PAt B hb s vh vn vl w) (hw : Below w.heap.size w w') : PPost B hb vh vn r s w (.returned r) w' := ⟨rfl, vh, vn, vl, h.below hw, Ft.of_below hw h.low.2⟩
set_option maxRecDepth 100000 in
theorem pcrash_any (B hb : Nat) (s : Hd) (vh vn vl : Value) (w : World) (h : PAt B hb s vh vn vl w) : Calls Try.prog 43 #[.pointer (some ⟨hb, 0, none⟩)] w (PPost B hb vh vn (.tuple #[]) (crH s) w) := by
  have HC := Lib.hid h.crash
  obtain ⟨-, ⟨f0, f1, f2, f3, f4, f5⟩⟩ := bx6 h.box
  obtain ⟨⟨d0, d1, d2, d3, d4, d5⟩, -⟩ := bx6 h.box
  clear h
  go_enter Try.func43, Try.ntmps43
  go_wp2_with fail
  go_end0
  exact ⟨rfl, _, _, _, HC.out⟩
theorem emp_iff (t : ByteArray) : (t.toList = []) ↔ (t.toList.isEmpty = true) := by cases t.toList <;> simp
set_option maxRecDepth 100000 in
theorem pabort_any (B hb : Nat) (s : Hd) (vh vn vl : Value) (w : World) (h : PAt B hb s vh vn vl w) : Calls Try.prog 41 #[.pointer (some ⟨hb, 0, none⟩)] w (PPost B hb vh vn (.int .i64 (abH s).1) (abH s).2 w) := by
  have HP := Lib.hid h
  obtain ⟨R, hR⟩ : ∃ R, abH s = R := ⟨_, rfl⟩
  have HR := Lib.hid hR
  rw [hR]
  obtain ⟨⟨d0, d1, d2, d3, d4, d5⟩, -⟩ := bx6 h.box
  clear h hR
  by_cases ht : s.t.toList = []
  · have HE : Hid (R = (15, s)) := Lib.hid (by rw [← HR.out]; exact if_pos ht)
    have t1 : s.t.toList.isEmpty = true := (emp_iff _).1 ht
    go_enter Try.func41, Try.ntmps41
    go_wp2_with fail
    go_ret
    rw [HE.out]
    exact pp_still HP.out (Below.refl _ _)
  · have HE : Hid (R = (0, crH s)) := Lib.hid (by rw [← HR.out]; exact if_neg ht)
    have t1 : s.t.toList.isEmpty = false := by cases h : s.t.toList.isEmpty with | false => rfl | true => exact absurd ((emp_iff _).2 h) ht
    go_enter Try.func41, Try.ntmps41
    go_wp2_with fail
    refine (pcrash_any B hb s vh vn vl _ HP.out).mono ?_
    rintro e w1 ⟨rfl, vh', vn', vl', hp, hf⟩
    have HP1 := Lib.hid hp
    have HF1 := Lib.hid hf
    clear hp hf d0 d1 d2 d3 d4 d5
    go_wp2_with fail
    go_ret
    rw [HE.out]
    exact ⟨rfl, _, _, _, HP1.out, HF1.out⟩
end Go.Proofs.Ytcljeedmiobepaa.Hd
