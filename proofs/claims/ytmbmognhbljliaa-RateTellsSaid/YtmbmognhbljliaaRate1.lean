/-
  The walks of CounterFault, Grown, GrownBy, of rate's time and of math/bits.Mul64.
-/
import Derived.Test.YtmbmognhbljliaaSmpEl
import Derived.Test.YtmbmognhbljliaaRateLaw
import Derived.Test.YtmbmognhbljliaaRoll1
import Derived.Shelf.Bits.Mul64
namespace Go.Proofs.Ytmbmognhbljliaa.Rate
open Go.RowKit Go.Gh Go.Proofs.Ytmbmognhbljliaa.Sam Go.Proofs.Ytmbmognhbljliaa.Smp
set_option linter.unusedVariables false

noncomputable def counterF (l : List (List Int)) : Int := if sampF l = 0 then (if NoNeg l l.length then 0 else 6) else sampF l
theorem counter_bad {l : List (List Int)} (h : ¬ sampF l = 0) : counterF l = sampF l := if_neg h
theorem counter_neg {l : List (List Int)} {n k : Nat} (h : sampF l = 0) (hl : l.length = n) (hk : k < n) (hv : vAt l k < 0) : counterF l = 6 := by
  unfold counterF
  rw [if_pos h, if_neg]
  intro h
  have := h k (by omega)
  omega
theorem counter_ok {l : List (List Int)} {n : Nat} (h : sampF l = 0) (hl : l.length = n) (hn : NoNeg l n) : counterF l = 0 := by
  unfold counterF
  rw [if_pos h, if_pos (by rw [hl]; exact hn)]
theorem wf2 {T V : Int} (h : ∀ z ∈ [T, V], (Lit.int .i64 z).wf = true) : (-9223372036854775808 ≤ T ∧ T < 9223372036854775808) ∧ -9223372036854775808 ≤ V ∧ V < 9223372036854775808 := ⟨wf_i64 (h T (by simp)), wf_i64 (h V (by simp))⟩
theorem vAt_of {l : List (List Int)} {k : Nat} {T V : Int} (h : l.getD k [] = [T, V]) : vAt l k = V := by unfold vAt; rw [h]; rfl

set_option maxHeartbeats 1000000 in
set_option maxRecDepth 100000 in
theorem counter_any (v : Value) (n : Nat) (l : List (List Int)) (w : World) (hs : Sl w 2 v n (rowCells l)) (hl : l.length = n) (hr : Rows64 2 l) (hn : n ≤ 140737488355328) :
    Calls Try.prog 56 #[v] w fun e w' => e = .returned (.int .i64 (counterF l)) ∧ Below w.heap.size w w' := by
  obtain ⟨ao, c, rfl, hnc, hc, _⟩ := hs.shape
  have HL := Lib.hid hl
  obtain ⟨e0, he0⟩ : ∃ e, sampF l = e := ⟨_, rfl⟩
  have HE := Lib.hid he0
  by_cases hbad : e0 = 0
  · subst hbad
    clear hl he0
    go_enter Try.func56, Try.ntmps56
    go_wp2_with (go_at_call 27; refine (samplesfault_any _ n l _ hs HL.out hr hn).mono ?_; rw [HE.out]; rintro e w1 ⟨rfl, hb1⟩)
    go_loopw [2, 13] (fun r i wr => ∃ k : Nat, k ≤ n ∧ i = .int .i64 k ∧ r = .int .i64 0 ∧ Below w.heap.size w wr ∧ Hid (NoNeg l k)) (fun _ i _ => n - (intOf i).toNat)
    case atStart => exact ⟨0, by omega, rfl, rfl, hb1, fun i hi => by omega⟩
    case round =>
      obtain ⟨k, hk, rfl, rfl, hbr, hno⟩ := hrel
      by_cases hlt : k < n
      · obtain ⟨b, off, rfl, hk1, hck⟩ := (hs.below hbr).rowk HL.out hr.k hlt
        obtain ⟨T, V, hx⟩ := row2 _ hk1
        rw [hx] at hck
        have c0 : _ = some (Value.int .i64 T) := hck 0 (by decide)
        have c1 : _ = some (Value.int .i64 V) := hck 1 (by decide)
        rw [Nat.add_zero] at c0
        have hv := vAt_of hx
        have HV := Lib.hid hv
        have hbA := hbr.alloc hbr.size (Obj.cells #[.int .i64 T, .int .i64 V] 90)
        clear hck hk1 hx hv
        by_cases hneg : V < 0
        · have HF : Hid (counterF l = 6) := Lib.hid (counter_neg HE.out HL.out hlt (by rw [HV.out]; exact hneg))
          go_wp2_with fail
          go_ret
          exact ⟨ret_int HF.out.symm, hbA⟩
        · have HN : Hid (NoNeg l (k + 1)) := Lib.hid (hno.out.succ (by rw [HV.out]; omega))
          go_wp2_with fail
          go_roundw
          case rel => exact ⟨k + 1, by omega, by go_num, rfl, hbA, HN⟩
          case measure => simp [intOf]; omega
      · obtain rfl : k = n := by omega
        have HF : Hid (counterF l = 0) := Lib.hid (counter_ok HE.out HL.out hno.out)
        go_wp2_with fail
        go_ret
        exact ⟨ret_int HF.out.symm, hbr⟩
  · have HF : Hid (counterF l = e0) := by
      show _ = _
      rw [counter_bad (by rw [he0]; exact hbad), he0]
    have t1 : (e0 != 0) = true := by rw [bne_iff_ne]; exact hbad
    clear hl he0
    go_enter Try.func56, Try.ntmps56
    go_wp2_with (go_at_call 27; refine (samplesfault_any _ n l _ hs HL.out hr hn).mono ?_; rw [HE.out]; rintro e w1 ⟨rfl, hb1⟩)
    go_ret
    exact ⟨ret_int HF.out.symm, hb1⟩

/-- What Grown answers. -/
noncomputable def grR (l : List (List Int)) : Int × Int × Int := if counterF l = 0 then (IntKind.u64.wrap (gS l l.length), (gA l l.length : Int), 0) else (0, 0, counterF l)
def GrPost (w : World) (r : Int × Int × Int) (e : Ending) (w' : World) : Prop := e = .returned (.tuple #[.int .u64 r.1, .int .i64 r.2.1, .int .i64 r.2.2]) ∧ Below w.heap.size w w'
theorem gr_bad {l : List (List Int)} {c : Int} (h : counterF l = c) (hc : c ≠ 0) : grR l = (0, 0, c) := by
  unfold grR; rw [h, if_neg hc]
theorem gr_ok {l : List (List Int)} {n : Nat} (h : counterF l = 0) (hl : l.length = n) : grR l = (IntKind.u64.wrap (gS l n), (gA l n : Int), 0) := by
  unfold grR; rw [if_pos h, hl]
/-- How far a sum has come. -/
structure GrAt (l : List (List Int)) (k : Nat) (s : Int) (a : Nat) : Prop where
  sum : IntKind.u64.wrap (gS l k) = s
  anew : gA l k = a
theorem grAt_less {l : List (List Int)} {j : Nat} {s P V : Int} {a : Nat} (h : GrAt l (j + 1) s a) (hp : vAt l j = P) (hv : vAt l (j + 1) = V) (hlt : V < P) : GrAt l (j + 1 + 1) (IntKind.u64.wrap (s + V)) (a + 1) :=
  ⟨by rw [gS_less (by rw [hp, hv]; exact hlt), ← h.sum, wrap_u64_add, hv], by rw [gA_less (by rw [hp, hv]; exact hlt), h.anew]⟩
theorem grAt_more {l : List (List Int)} {j : Nat} {s P V : Int} {a : Nat} (h : GrAt l (j + 1) s a) (hp : vAt l j = P) (hv : vAt l (j + 1) = V) (hlt : ¬ V < P) : GrAt l (j + 1 + 1) (IntKind.u64.wrap (s + (V - P))) a :=
  ⟨by rw [gS_more (by rw [hp, hv]; exact hlt), ← h.sum, wrap_u64_add, hv, hp], by rw [gA_more (by rw [hp, hv]; exact hlt), h.anew]⟩
theorem wrap_in_u64 {z : Int} (h : 0 ≤ z) (h2 : z < 18446744073709551616) : IntKind.u64.wrap z = z := by rw [IntKind.wrap_u64]; omega
end Go.Proofs.Ytmbmognhbljliaa.Rate
