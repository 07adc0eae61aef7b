/-
  Records in frames: as plain functions.
-/
import Derived.Test.YtckpabminhkndaaBits2
import Derived.Test.YtckpabminhkndaaHash
namespace Go.Proofs.Ytckpabminhkndaa.Log
open Go.RowKit Go.Gh Go.Proofs.Ytckpabminhkndaa.Bits Go.Proofs.Ytckpabminhkndaa.Hash
set_option linter.unusedVariables false
def h8 (h : Int) : List Int := (List.range 8).map fun i => h / 2 ^ (56 - 8 * i) % 256
def frm (l : List Int) : List Int := putI 9 l.length ++ l ++ h8 (hashI l.length l l.length)
theorem h8_len (h : Int) : (h8 h).length = 8 := by unfold h8; simp
theorem frm_len (l : List Int) : (frm l).length = (putI 9 l.length).length + l.length + 8 := by
  unfold frm
  rw [List.length_append, List.length_append, h8_len]
def BytesL (l : List Int) : Prop := ∀ z ∈ l, 0 ≤ z ∧ z < 256
theorem h8_bytes (h : Int) : BytesL (h8 h) := by
  intro z hz
  unfold h8 at hz
  obtain ⟨i, _, rfl⟩ := List.mem_map.1 hz
  omega
theorem bytesL_append {a b : List Int} (ha : BytesL a) (hb : BytesL b) : BytesL (a ++ b) := by
  intro z hz
  rcases List.mem_append.1 hz with h | h
  · exact ha z h
  · exact hb z h
/-- A number that was taken was put. -/
theorem take_put : ∀ (r : List Int) (u : Int) (i : Nat) (n k : Int), BytesL r → i ≤ 9 → takeS u i r = (n, k, 0) →
    ∃ v : Int, 0 ≤ v ∧ (0 < i → 0 < v) ∧ n = u + v * 2 ^ (7 * i) ∧ k = (i : Int) + (putI (9 - i) v).length ∧ r.take (putI (9 - i) v).length = putI (9 - i) v
  | [], u, i, n, k, _, _, h => by
    rw [takeS] at h
    have := congrArg (fun r : Int × Int × Int => r.2.2) h
    simp at this
  | b :: rest, u, i, n, k, hb, hi, h => by
    rw [takeS] at h
    have hb0 := hb b (by simp)
    split at h
    · have := congrArg (fun r : Int × Int × Int => r.2.2) h
      simp at this
    · rename_i hbad
      have hnb := not_or.1 hbad
      split at h
      · rename_i hsm
        have e1 : u + b % 128 * 2 ^ (7 * i) = n := congrArg (fun r : Int × Int × Int => r.1) h
        have e2 : (i : Int) + 1 = k := congrArg (fun r : Int × Int × Int => r.2.1) h
        have hm : b % 128 = b := by omega
        rw [hm] at e1
        refine ⟨b, hb0.1, fun hpos => ?_, e1.symm, ?_, ?_⟩
        · have : ¬ b = 0 := fun h0 => hnb.2 ⟨hpos, h0⟩
          omega
        · rw [putI_small _ _ hsm, ← e2]; rfl
        · rw [putI_small _ _ hsm]; rfl
      · rename_i hbig
        have hi9 : i ≠ 9 := fun h9 => hnb.1 ⟨h9, by omega⟩
        obtain ⟨v, h1, h2, h3, h4, h5⟩ := take_put rest (u + b % 128 * 2 ^ (7 * i)) (i + 1) n k (fun z hz => hb z (by simp [hz])) (by omega) h
        have hv := h2 (by omega)
        have hp : putI (9 - i) (b % 128 + 128 * v) = b :: putI (9 - (i + 1)) v := by
          rw [show 9 - i = (9 - (i + 1)) + 1 from by omega, putI_big _ _ (by omega)]
          have ea : (b % 128 + 128 * v) % 128 + 128 = b := by omega
          have eb : (b % 128 + 128 * v) / 128 = v := by omega
          rw [ea, eb]
        refine ⟨b % 128 + 128 * v, by omega, fun _ => by omega, ?_, ?_, ?_⟩
        · rw [h3, show 7 * (i + 1) = 7 * i + 7 from by omega, Int.pow_add, Int.add_mul]
          have e7 : (2 : Int) ^ 7 = 128 := by decide
          rw [e7, Int.add_assoc]
          congr 1
          congr 1
          rw [Int.mul_comm (2 ^ (7 * i)) 128, ← Int.mul_assoc, Int.mul_comm v 128]
        · rw [hp, h4]
          simp only [List.length_cons]
          omega
        · rw [hp]
          simp only [List.length_cons, List.take_succ_cons, h5]
theorem take_canon {b : List Int} {n k : Int} (hb : BytesL b) (h : takeS 0 0 b = (n, k, 0)) : 0 ≤ n ∧ k = (putI 9 n).length ∧ b.take (putI 9 n).length = putI 9 n := by
  obtain ⟨v, h1, _, h3, h4, h5⟩ := take_put b 0 0 n k hb (by omega) h
  have e : n = v := by rw [h3]; simp
  subst e
  exact ⟨h1, by rw [h4]; simp, h5⟩
/-- The first frame of bytes. -/
def firstF (b : List Int) : Option (List Int × Nat) :=
  if (takeS 0 0 b).2.2 ≠ 0 ∨ 2000 < (takeS 0 0 b).1 ∨ (b.length : Int) < (takeS 0 0 b).2.1 + (takeS 0 0 b).1 + 8 then none
  else if frm ((b.drop (takeS 0 0 b).2.1.toNat).take (takeS 0 0 b).1.toNat) = b.take ((takeS 0 0 b).2.1 + (takeS 0 0 b).1 + 8).toNat then some ((b.drop (takeS 0 0 b).2.1.toNat).take (takeS 0 0 b).1.toNat, ((takeS 0 0 b).2.1 + (takeS 0 0 b).1 + 8).toNat) else none
def cutF : Nat → List Int → List (List Int) × Nat
  | 0, _ => ([], 0)
  | f + 1, b => match firstF b with
    | none => ([], 0)
    | some (rec, m) => (rec :: (cutF f (b.drop m)).1, m + (cutF f (b.drop m)).2)
theorem putI_pos (f : Nat) (u : Int) : 0 < (putI f u).length := (putI_len f u).1
/-- What is known of a first frame's parts. -/
theorem parts {b : List Int} {n k e : Int} (hb : BytesL b) (ht : takeS 0 0 b = (n, k, e)) (he : e = 0) (h1 : ¬ 2000 < n) (h2 : ¬ (b.length : Int) < k + n + 8) :
    ∃ n' k' : Nat, n = n' ∧ k = k' ∧ 1 ≤ k' ∧ k' ≤ 10 ∧ k' + n' + 8 ≤ b.length ∧ n' ≤ 2000 ∧ ((b.drop k').take n').length = n' ∧ (frm ((b.drop k').take n')).length = k' + n' + 8 := by
  subst he
  obtain ⟨h3, h4, _⟩ := take_canon hb ht
  obtain ⟨n', rfl⟩ := Int.eq_ofNat_of_zero_le h3
  have hk := putI_len 9 (n' : Int)
  have hl : ((b.drop (putI 9 (n' : Int)).length).take n').length = n' := by
    rw [List.length_take, List.length_drop]
    omega
  refine ⟨n', (putI 9 (n' : Int)).length, rfl, h4, hk.1, hk.2, by omega, by omega, hl, ?_⟩
  rw [frm_len, hl]
theorem first_eq {b : List Int} {n k : Nat} {e : Int} (ht : takeS 0 0 b = ((n : Int), (k : Int), e)) (he : e = 0) (h1 : n ≤ 2000) (h2 : k + n + 8 ≤ b.length) :
    firstF b = if frm ((b.drop k).take n) = b.take (k + n + 8) then some ((b.drop k).take n, k + n + 8) else none := by
  have e1 : ((k : Int) + (n : Int) + 8).toNat = k + n + 8 := by omega
  unfold firstF
  rw [ht]
  simp only [Int.toNat_natCast, e1]
  rw [if_neg (by subst he; omega)]
theorem first_bad {b : List Int} {n k e : Int} (ht : takeS 0 0 b = (n, k, e)) (h : e ≠ 0 ∨ 2000 < n ∨ (b.length : Int) < k + n + 8) : firstF b = none := by
  unfold firstF
  rw [ht]
  exact if_pos h
/-- The end of a frame, as the reference lays it: the lowest byte first, each ahead of those before. -/
def endF (h : Int) (q : Nat) : List Int := (List.range q).map fun i => h / 2 ^ (8 * (q - 1 - i)) % 256
theorem endF_succ (h : Int) (q : Nat) : endF h (q + 1) = (h / 2 ^ (8 * q) % 256) :: endF h q := by
  unfold endF
  rw [List.range_succ_eq_map, List.map_cons, List.map_map]
  congr 1
  apply List.map_congr_left
  intro i _
  simp only [Function.comp]
  rw [show q + 1 - 1 - (i + 1) = q - 1 - i from by omega]
theorem endF_all (h : Int) : endF h 8 = h8 h := by
  unfold endF h8
  apply List.map_congr_left
  intro i hi
  have : i < 8 := List.mem_range.1 hi
  rw [show 8 * (8 - 1 - i) = 56 - 8 * i from by omega]
theorem endF_len (h : Int) (q : Nat) : (endF h q).length = q := by unfold endF; simp
/-- The first bytes of a frame's end, as Frame lays them. -/
def headF (h : Int) (q : Nat) : List Int := (List.range q).map fun i => h / 2 ^ (56 - 8 * i) % 256
theorem headF_succ (h : Int) (q : Nat) : headF h (q + 1) = headF h q ++ [h / 2 ^ (56 - 8 * q) % 256] := by
  unfold headF; rw [List.range_succ, List.map_append]; rfl
theorem headF_all (h : Int) : headF h 8 = h8 h := rfl
theorem cut_none {b : List Int} (f : Nat) (h : firstF b = none) : cutF (f + 1) b = ([], 0) := by rw [cutF, h]
theorem cut_some {b rec : List Int} {m : Nat} (f : Nat) (h : firstF b = some (rec, m)) : cutF (f + 1) b = (rec :: (cutF f (b.drop m)).1, m + (cutF f (b.drop m)).2) := by rw [cutF, h]
/-- A list of slice values, each readable as bytes. -/
def RowsB (w : World) (vs : List Value) (L : List (List Int)) : Prop := vs.length = L.length ∧ ∀ i v, vs[i]? = some v → Sl w 1 v (L.getD i []).length ((L.getD i []).map (Value.int .u8)) ∧ BytesL (L.getD i [])
theorem RowsB.below {w w' : World} {vs : List Value} {L : List (List Int)} (h : RowsB w vs L) (hb : Below w.heap.size w w') : RowsB w' vs L :=
  ⟨h.1, fun i v hv => ⟨(h.2 i v hv).1.below hb, (h.2 i v hv).2⟩⟩
theorem RowsB.nil (w : World) : RowsB w [] [] := ⟨rfl, fun i v h => by simp at h⟩
theorem RowsB.snoc {w : World} {vs : List Value} {L : List (List Int)} {v : Value} {l : List Int} (h : RowsB w vs L) (hv : Sl w 1 v l.length (l.map (Value.int .u8))) (hl : BytesL l) : RowsB w (vs ++ [v]) (L ++ [l]) := by
  refine ⟨by rw [List.length_append, List.length_append, h.1]; rfl, fun i u hu => ?_⟩
  by_cases hi : i < vs.length
  · rw [List.getElem?_append_left hi] at hu
    have := h.2 i u hu
    rw [List.getD_eq_getElem?_getD, List.getElem?_append_left (by rw [← h.1]; exact hi), ← List.getD_eq_getElem?_getD]
    exact this
  · have hi2 : i = vs.length := by
      have := (List.getElem?_eq_some_iff.1 hu).1
      rw [List.length_append] at this
      simp at this
      omega
    subst hi2
    rw [List.getElem?_append_right (Nat.le_refl _), Nat.sub_self] at hu
    have e : u = v := by simpa using hu.symm
    subst e
    rw [List.getD_eq_getElem?_getD, List.getElem?_append_right (by rw [h.1]; exact Nat.le_refl _), h.1, Nat.sub_self]
    exact ⟨hv, hl⟩
theorem bytesL_wf {l : List Int} (h : BytesL l) : ∀ z ∈ l, (Lit.int .u8 z).wf = true := by
  intro z hz
  have := h z hz
  simp [Lit.wf, IntKind.min, IntKind.max, IntKind.signed, IntKind.bits]
  omega
theorem bytesL_drop {l : List Int} (h : BytesL l) (k : Nat) : BytesL (l.drop k) := fun z hz => h z (List.mem_of_mem_drop hz)
theorem bytesL_take {l : List Int} (h : BytesL l) (k : Nat) : BytesL (l.take k) := fun z hz => h z (List.mem_of_mem_take hz)
end Go.Proofs.Ytckpabminhkndaa.Log
