/-
  A shard: the walks of hand's New, Prepare, Cut, Write.
-/
import Derived.Test.YtcljeedmiobepaaHd3
namespace Go.Proofs.Ytcljeedmiobepaa.Hd
open Go.RowKit Go.Gh Go.Proofs.Ytcljeedmiobepaa.Rk
set_option linter.unusedVariables false
def newH (o : ByteArray) : Hd := ⟨1, o, noB, [], [], []⟩
def NPost (o : ByteArray) (w : World) (e : Ending) (w' : World) : Prop :=
  (nameB o = false ∧ e = .returned (.tuple #[.pointer none, .int .i64 4]) ∧ w' = w) ∨
  (nameB o = true ∧ e = .returned (.tuple #[.pointer (some ⟨w.heap.size, 0, none⟩), .int .i64 0]) ∧ Below w.heap.size w w' ∧ PAt w.heap.size w.heap.size (newH o) (.slice none 0 0) (.slice none 0 0) (.slice none 0 0) w')
set_option maxRecDepth 100000 in
theorem pnew_any (o : ByteArray) (w : World) : Calls Try.prog 31 #[.string o] w (NPost o w) := by
  obtain ⟨D, hD⟩ : ∃ D, nameB o = D := ⟨_, rfl⟩
  have HD := Lib.hid hD
  clear hD
  go_enter Try.func31, Try.ntmps31
  go_wp2_with fail
  refine (name_any o _).mono ?_
  rw [HD.out]
  rintro e w1 ⟨rfl, rfl⟩
  cases D with
  | false =>
    go_wp2_with fail
    go_ret2
    exact Or.inl ⟨HD.out, rfl, rfl⟩
  | true =>
    have hb := heap_alloc_new w1 (.cells #[.int .i64 1, .string o, .string noB, .slice none 0 0, .slice none 0 0, .slice none 0 0] 168)
    have HP : Hid (Below w1.heap.size w1 (w1.alloc (.cells #[.int .i64 1, .string o, .string noB, .slice none 0 0, .slice none 0 0, .slice none 0 0] 168)) ∧ PAt w1.heap.size w1.heap.size (newH o) (.slice none 0 0) (.slice none 0 0) (.slice none 0 0) (w1.alloc (.cells #[.int .i64 1, .string o, .string noB, .slice none 0 0, .slice none 0 0, .slice none 0 0] 168))) := Lib.hid
      ⟨(Below.refl _ _).alloc (Nat.le_refl _) _, hb, World.ownsRow_nil _ _ _ _, World.ownsRow_nil _ _ _ _, ns_nil, fun g hg => by simp [Value.ownBlock] at hg, Or.inl rfl, Nat.le_refl _, by simp⟩
    clear hb
    go_wp2_with fail
    go_ret2
    exact Or.inr ⟨HD.out, rfl, HP.out.1, HP.out.2⟩
set_option maxRecDepth 100000 in
theorem pprep_any (B hb : Nat) (s : Hd) (to' : ByteArray) (vh vn vl : Value) (w : World) (h : PAt B hb s vh vn vl w) (hn : s.has.length ≤ 1000) : Calls Try.prog 35 #[.pointer (some ⟨hb, 0, none⟩), .string to'] w (PPost B hb vh vn (.int .i64 (prH s to').1) (prH s to').2 w) := by
  have HP := Lib.hid h
  obtain ⟨R, hR⟩ : ∃ R, prH s to' = R := ⟨_, rfl⟩
  have HR := Lib.hid hR
  rw [hR]
  obtain ⟨⟨d0, d1, d2, d3, d4, d5⟩, ⟨f0, f1, f2, f3, f4, f5⟩⟩ := bx6 h.box
  obtain ⟨n, hm⟩ : ∃ n, s.has.length = n := ⟨_, rfl⟩
  have HN := Lib.hid hm
  have hown := h.has
  rw [hm] at hown hn
  obtain ⟨ho, hc, rfl, -, -, -⟩ := own_shape hown
  have HNS : Hid (Ns w (.slice ho n hc) s.has) := Lib.hid (by unfold Ns; rw [hm]; exact own_sl hown)
  obtain ⟨D, hD⟩ : ∃ D, nameB to' = D := ⟨_, rfl⟩
  have HD := Lib.hid hD
  clear h hR hm hown hD
  go_enter Try.func35, Try.ntmps35
  go_wp2_with fail
  refine (name_any to' _).mono ?_
  rw [HD.out]
  rintro e w1 ⟨rfl, rfl⟩
  cases D with
  | false =>
    have HE : Hid (R = (4, s)) := Lib.hid (by
      rw [← HR.out]
      refine if_pos ?_
      have h1 := HD.out
      unfold nameB at h1
      by_cases h2 : to'.toList = []
      · exact Or.inl h2
      · right
        have t1 : to'.toList.isEmpty = false := by cases h : to'.toList.isEmpty with | false => rfl | true => exact absurd ((emp_iff _).2 h) h2
        rw [t1] at h1
        simp at h1
        omega)
    go_wp2_with fail
    go_ret
    rw [HE.out]
    exact pp_still HP.out (Below.refl _ _)
  | true =>
    have HG : Hid (¬ (to'.toList = [] ∨ 20 < to'.size)) := Lib.hid (by
      have h1 := HD.out
      unfold nameB at h1
      simp at h1
      rintro (h2 | h2)
      · exact h1.1 h2
      · omega)
    by_cases ht : s.t.toList = []
    case neg =>
      have HE : Hid (R = (11, s)) := Lib.hid (by rw [← HR.out]; unfold prH; rw [if_neg HG.out, if_pos ht])
      have t1 : s.t.toList.isEmpty = false := by cases h : s.t.toList.isEmpty with | false => rfl | true => exact absurd ((emp_iff _).2 h) ht
      go_wp2_with fail
      go_ret
      rw [HE.out]
      exact pp_still HP.out (Below.refl _ _)
    have t1 : s.t.toList.isEmpty = true := (emp_iff _).1 ht
    have HT := Lib.hid ht
    by_cases ho' : to'.toList = s.o.toList
    · have HE : Hid (R = (8, s)) := Lib.hid (by rw [← HR.out]; unfold prH; rw [if_neg HG.out, if_neg (fun h => h ht), if_pos ho'])
      have t2 : (to'.toList == s.o.toList) = true := by rw [ho']; simp
      go_wp2_with fail
      go_ret
      rw [HE.out]
      exact pp_still HP.out (Below.refl _ _)
    · have HE : Hid (R = (0, ⟨s.e, s.o, to', s.has, [], s.has⟩)) := Lib.hid (by rw [← HR.out]; unfold prH; rw [if_neg HG.out, if_neg (fun h => h ht), if_neg ho'])
      have t2 : (to'.toList == s.o.toList) = false := beq_eq_false_iff_ne.2 ho'
      clear ho' ht
      go_wp2_with fail
      refine (clone64_any _ s.has _ HNS.out (by rw [HN.out]; omega)).mono ?_
      rintro e w2 ⟨v2, rfl, hown2, hb2⟩
      have hp2 := HP.out.below hb2
      have hns2 : Ns w2 v2 s.has := own_sl hown2
      have hr2 := fun g hg => row_at (g := g) hown2 hg
      have hlt2 := fun g hg => hown2.lt g hg
      have HB2 := Lib.hid hb2
      obtain ⟨⟨x0, x1, x2, x3, x4, x5⟩, ⟨y0, y1, y2, y3, y4, y5⟩⟩ := bx6 hp2.box
      have hsh := own_shape hown2
      rw [HN.out] at hsh
      obtain ⟨o2, c2, rfl, -, -, -⟩ := hsh
      have b1 := row_setCell 2 (.string to') hp2.box
      have b2 := row_setCell 4 (.slice none 0 0) b1
      have b3 : (((w2.setCell ⟨hb, 2, none⟩ (.string to')).setCell ⟨hb, 4, none⟩ (.slice none 0 0)).setCell ⟨hb, 5, none⟩ (.slice o2 n c2)).heap[hb]? = some (.cells #[.int .i64 s.e, .string s.o, .string to', .slice ho n hc, .slice none 0 0, .slice o2 n c2] 168 (0, 0)) := by simpa using row_setCell 5 (.slice o2 n c2) b2
      have ob := (((OB.refl B hb w2).set hp2.low.1 2 (.string to')).set hp2.low.1 4 (.slice none 0 0)).set hp2.low.1 5 (.slice o2 n c2)
      have HF := Lib.hid (hp2.rebox (s' := ⟨s.e, s.o, to', s.has, [], s.has⟩) ob.sz ob.keep ob.bel b3 hp2.has (World.ownsRow_nil _ _ _ _) hns2 (fun g hg => ⟨hr2 g hg, fun e => by
          have h1 := (hlt2 g hg).1
          have h2 := (HP.out.has.lt g e).2
          omega, by simp [Value.ownBlock]⟩) (by
          cases hv : (Value.slice ho n hc).ownBlock with
          | none => exact Or.inl rfl
          | some g => exact Or.inr (by simp [Value.ownBlock])) (fun g hg => hg.elim Or.inl (fun e => by simp [Value.ownBlock] at e)))
      clear d0 d1 d2 d3 d4 d5 f0 f1 f2 f3 f4 f5 hp2 hns2 hr2 hlt2 hown2 hb2 b1 b2 b3 ob
      go_wp2_with fail
      go_ret
      rw [HE.out]
      exact ⟨rfl, _, _, _, HF.out.1, (Ft.of_below HB2.out HP.out.low.2).trans HF.out.2⟩
end Go.Proofs.Ytcljeedmiobepaa.Hd
