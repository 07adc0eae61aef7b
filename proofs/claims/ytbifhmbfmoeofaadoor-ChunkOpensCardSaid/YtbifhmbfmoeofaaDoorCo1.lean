/-
  Plain facts about bits in a row: numbers as bits, bits as bytes.
-/
import Derived.WalkKit
import Derived.ProofKit
import Derived.Below
import Derived.Lib.Hide
import Derived.Deep.Slices
import Derived.OwnWalk
import Derived.Handy
import Derived.WalkSmall
import Derived.OpenShut
import Derived.ShutString
import Derived.ChangeOld
import Derived.SizedLaws
import Derived.IntWalk
import Derived.Test.YtbifhmbfmoeofaaDoorRows
import Derived.Outline
import Derived.Deep.AppendLies
import Derived.Deep.RegionLaw
import Derived.Deep.Cut
import Derived.Deep.DeepCutAuto
import Derived.Deep.QuietTactic
import Derived.BigQuiet
import Derived.WalkSpells
namespace Go.Gh

def b2i (b : Bool) : Int := if b then 1 else 0
def bitI (v : Int) (i : Nat) : Bool := v / 2 ^ i % 2 == 1
def signs (v : Int) : Nat → List Bool
  | 0 => []
  | k + 1 => bitI v k :: signs v k
def valF (acc : Int) : List Bool → Int
  | [] => acc
  | b :: s => valF (2 * acc + b2i b) s
def bitAt (l : List Int) (i : Nat) : Bool := bitI (l.getD (i / 8) 0) (7 - i % 8)
def unpack (l : List Int) (N : Nat) : List Bool := (List.range N).map (bitAt l)
def eight (f : Nat → Bool) : List Bool := (List.range 8).map f
def byteAt (s : List Bool) (j : Nat) : Int := valF 0 (eight fun i => s.getD (8 * j + i) false)
def pack (s : List Bool) : List Int := (List.range ((s.length + 7) / 8)).map (byteAt s)
def Bytes (l : List Int) : Prop := ∀ z ∈ l, 0 ≤ z ∧ z < 256
def okB (l : List Int) (N : Int) : Prop := 0 ≤ N ∧ N ≤ 8 * l.length ∧ 8 * l.length - N ≤ 7 ∧ ∀ i : Nat, N ≤ i → i < 8 * l.length → bitAt l i = false

theorem b2i_bd (b : Bool) : 0 ≤ b2i b ∧ b2i b ≤ 1 := by cases b <;> simp [b2i]
theorem two_pow_cast (n : Nat) : (2 : Int) ^ n = ((2 ^ n : Nat) : Int) := by rw [Int.natCast_pow]; rfl
theorem two_pow_pos (n : Nat) : (0 : Int) < 2 ^ n := Int.pow_pos (by omega)

theorem valF_acc (s : List Bool) : ∀ acc, valF acc s = acc * 2 ^ s.length + valF 0 s := by
  induction s with
  | nil => intro acc; simp [valF]
  | cons b s ih =>
    intro acc
    simp only [valF, List.length_cons]
    rw [ih (2 * acc + b2i b), ih (2 * 0 + b2i b), Int.pow_succ, Int.add_mul, Int.add_mul, Int.mul_comm 2 acc, Int.mul_assoc, Int.mul_comm 2 (2 ^ s.length)]
    omega
theorem valF_append (s t : List Bool) : ∀ acc, valF acc (s ++ t) = valF (valF acc s) t := by
  induction s with
  | nil => intro acc; rfl
  | cons b s ih => intro acc; exact ih _
theorem valF_snoc (acc : Int) (s : List Bool) (b : Bool) : valF acc (s ++ [b]) = 2 * valF acc s + b2i b := by
  rw [valF_append]; rfl
theorem valF_bd (s : List Bool) : 0 ≤ valF 0 s ∧ valF 0 s < 2 ^ s.length := by
  induction s with
  | nil => simp [valF]
  | cons b s ih =>
    simp only [valF, List.length_cons]
    rw [valF_acc, Int.pow_succ]
    have := b2i_bd b
    have h1 : (0 : Int) < 2 ^ s.length := two_pow_pos _
    have h2 : (2 * 0 + b2i b) * 2 ^ s.length = if b then 2 ^ s.length else 0 := by cases b <;> simp [b2i]
    rw [h2]
    split <;> omega

theorem bitI_zero (i : Nat) : bitI 0 i = false := by simp [bitI]
theorem bitI_double_zero (v : Int) (b : Bool) : bitI (2 * v + b2i b) 0 = b := by
  cases b <;> simp [bitI, b2i] <;> omega
theorem bitI_double_succ (v : Int) (b : Bool) (k : Nat) : bitI (2 * v + b2i b) (k + 1) = bitI v k := by
  have h : (2 * v + b2i b) / 2 ^ (k + 1) = v / 2 ^ k := by
    rw [Int.pow_succ, Int.mul_comm (2 ^ k) 2, ← Int.ediv_ediv_of_nonneg (by omega)]
    congr 1
    have := b2i_bd b
    omega
  unfold bitI
  rw [h]
theorem bitI_half (v : Int) (k : Nat) : bitI (v / 2) k = bitI v (k + 1) := by
  unfold bitI
  rw [Int.ediv_ediv_of_nonneg (by omega), Int.pow_succ, Int.mul_comm (2 ^ k) 2]
theorem bitI_mod (v : Int) (n k : Nat) (h : k < n) : bitI (v % 2 ^ n) k = bitI v k := by
  unfold bitI
  congr 1
  rw [show n = k + (n - k) from by omega, Int.pow_add]
  have hp := two_pow_pos k
  generalize hq : (2 : Int) ^ k = p at *
  obtain ⟨m, hm⟩ : ∃ m, n - k = m + 1 := ⟨n - k - 1, by omega⟩
  rw [hm, Int.pow_succ]
  generalize (2 : Int) ^ m = r
  have e1 := Int.emod_def v (p * (r * 2))
  rw [e1]
  generalize v / (p * (r * 2)) = q
  have : v - p * (r * 2) * q = v + p * (-(r * q) * 2) := by
    rw [Int.mul_assoc p, Int.sub_eq_add_neg, ← Int.mul_neg]
    congr 2
    rw [Int.mul_right_comm, Int.neg_mul]
  rw [this, Int.add_mul_ediv_left _ _ (by omega)]
  omega

/-- Bit k of what bits come to. -/
theorem bit_val (s : List Bool) : ∀ k, k < s.length → bitI (valF 0 s) (s.length - 1 - k) = s.getD k false := by
  have key : ∀ (n : Nat) (s : List Bool), s.length = n → ∀ k, k < s.length → bitI (valF 0 s) (s.length - 1 - k) = s.getD k false := by
    intro n
    induction n with
    | zero => intro s hs k hk; omega
    | succ n ih =>
      intro s hs k hk
      obtain ⟨t, b, rfl⟩ : ∃ t b, s = t ++ [b] := ⟨s.dropLast, s.getLast (by intro h; simp [h] at hs), (List.dropLast_concat_getLast _).symm⟩
      simp at hs hk
      rw [valF_snoc]
      by_cases hkt : k = t.length
      · subst hkt
        simp [bitI_double_zero]
      · have : (t ++ [b]).length - 1 - k = (t.length - 1 - k) + 1 := by simp; omega
        rw [this, bitI_double_succ, ih t hs k (by omega)]
        simp [List.getD_eq_getElem?_getD, List.getElem?_append_left (show k < t.length by omega)]
  exact key s.length s rfl

theorem val_signs (v : Int) (n : Nat) : valF 0 (signs v n) = v % 2 ^ n := by
  have key : ∀ n acc, valF acc (signs v n) = acc * 2 ^ n + v % 2 ^ n := by
    intro n
    induction n with
    | zero => intro acc; simp [signs, valF]
    | succ n ih =>
      intro acc
      simp only [signs, valF]
      rw [ih, Int.pow_succ]
      have hp := two_pow_pos n
      have e : v % (2 ^ n * 2) = b2i (bitI v n) * 2 ^ n + v % 2 ^ n := by
        unfold bitI
        have h1 := Int.emod_def v (2 ^ n * 2)
        have h2 := Int.emod_def v (2 ^ n)
        have h3 : v / (2 ^ n * 2) = v / 2 ^ n / 2 := (Int.ediv_ediv_of_nonneg (by omega)).symm
        rw [h1, h2, h3]
        generalize v / 2 ^ n = q
        have h4 : q = 2 * (q / 2) + q % 2 := by omega
        have h5 : b2i (q % 2 == 1) = q % 2 := by
          rcases (show q % 2 = 0 ∨ q % 2 = 1 by omega) with h | h <;> simp [h, b2i]
        rw [h5]
        generalize hr : q % 2 = r at *
        generalize q / 2 = u at *
        rw [h4, Int.mul_add, Int.mul_comm r, Int.mul_assoc]
        omega
      rw [e, Int.add_mul, Int.mul_comm 2 acc, Int.mul_assoc, Int.mul_comm 2 (2 ^ n)]
      omega
  rw [key n 0]
  omega
theorem signs_len (v : Int) (n : Nat) : (signs v n).length = n := by
  induction n with
  | zero => rfl
  | succ n ih => simp [signs, ih]
theorem signs_get (v : Int) (n k : Nat) (h : k < n) : (signs v n).getD k false = bitI v (n - 1 - k) := by
  induction n generalizing k with
  | zero => omega
  | succ n ih =>
    cases k with
    | zero => simp [signs]
    | succ k =>
      simp only [signs, List.getD_cons_succ]
      rw [ih k (by omega)]
      congr 1
      omega
theorem signs_val (s : List Bool) : signs (valF 0 s) s.length = s := by
  apply List.ext_getElem
  · simp [signs_len]
  · intro k h1 h2
    have := signs_get (valF 0 s) s.length k h2
    rw [bit_val s k h2] at this
    rw [List.getD_eq_getElem?_getD, List.getD_eq_getElem?_getD, List.getElem?_eq_getElem h1, List.getElem?_eq_getElem h2] at this
    simpa using this
theorem signs_half (v : Int) (n : Nat) : signs v (n + 1) = signs (v / 2) n ++ [bitI v 0] := by
  induction n with
  | zero => rfl
  | succ n ih =>
    rw [signs, ih]
    show _ = (bitI (v / 2) n :: signs (v / 2) n) ++ [bitI v 0]
    rw [bitI_half]
    rfl
theorem signs_mod (v : Int) (n m : Nat) (h : n ≤ m) : signs (v % 2 ^ m) n = signs v n := by
  induction n with
  | zero => rfl
  | succ n ih => simp only [signs]; rw [bitI_mod v m n (by omega), ih (by omega)]

theorem eight_len (f : Nat → Bool) : (eight f).length = 8 := by simp [eight]
theorem eight_get (f : Nat → Bool) (i : Nat) (h : i < 8) : (eight f).getD i false = f i := by simp [eight, h]
theorem byte_signs (z : Int) (h0 : 0 ≤ z) (h1 : z < 256) : valF 0 (eight fun i => bitI z (7 - i)) = z := by
  have : (eight fun i => bitI z (7 - i)) = signs z 8 := by
    simp [eight, List.range_succ, signs]
  rw [this, val_signs]
  have : (2 : Int) ^ 8 = 256 := by decide
  omega
theorem byteAt_bd (s : List Bool) (j : Nat) : 0 ≤ byteAt s j ∧ byteAt s j < 256 := by
  have := valF_bd (eight fun i => s.getD (8 * j + i) false)
  rw [eight_len] at this
  have e : (2 : Int) ^ 8 = 256 := by decide
  unfold byteAt
  omega
theorem pack_bytes (s : List Bool) : Bytes (pack s) := by
  intro z hz
  simp [pack] at hz
  obtain ⟨j, _, rfl⟩ := hz
  exact byteAt_bd s j
theorem pack_len (s : List Bool) : (pack s).length = (s.length + 7) / 8 := by simp [pack]
theorem pack_get (s : List Bool) (j : Nat) (h : j < (s.length + 7) / 8) : (pack s).getD j 0 = byteAt s j := by simp [pack, h]
theorem bit_byteAt (s : List Bool) (j i : Nat) (h : i < 8) : bitI (byteAt s j) (7 - i) = s.getD (8 * j + i) false := by
  unfold byteAt
  have := bit_val (eight fun i => s.getD (8 * j + i) false) i (by rw [eight_len]; exact h)
  rw [eight_len, eight_get _ _ h] at this
  exact this
theorem unpack_len (l : List Int) (N : Nat) : (unpack l N).length = N := by simp [unpack]
theorem unpack_get (l : List Int) (N i : Nat) (h : i < N) : (unpack l N).getD i false = bitAt l i := by simp [unpack, h]
theorem bitAt_pack (s : List Bool) (i : Nat) (h : i < s.length) : bitAt (pack s) i = s.getD i false := by
  unfold bitAt
  rw [pack_get s (i / 8) (by omega), bit_byteAt s (i / 8) (i % 8) (by omega)]
  congr 1
  omega
theorem unpack_pack (s : List Bool) : unpack (pack s) s.length = s := by
  apply List.ext_getElem
  · simp [unpack]
  · intro i h1 h2
    simp only [unpack, List.getElem_map, List.getElem_range]
    rw [bitAt_pack s i h2, List.getD_eq_getElem?_getD, List.getElem?_eq_getElem h2]
    rfl
theorem pack_unpack (l : List Int) (N : Nat) (hl : Bytes l) (h : okB l N) : pack (unpack l N) = l := by
  obtain ⟨h0, h1, h2, h3⟩ := h
  apply List.ext_getElem
  · rw [pack_len, unpack_len]; omega
  · intro j hj1 hj2
    have hz := hl l[j] (List.getElem_mem _)
    have hlen : (pack (unpack l N)).length = (N + 7) / 8 := by rw [pack_len, unpack_len]
    have e1 : (pack (unpack l N))[j] = byteAt (unpack l N) j := by
      have := pack_get (unpack l N) j (by rw [unpack_len]; omega)
      rw [List.getD_eq_getElem?_getD, List.getElem?_eq_getElem hj1] at this
      exact this
    rw [e1, ← byte_signs l[j] hz.1 hz.2]
    unfold byteAt
    congr 1
    unfold eight
    apply List.map_congr_left
    intro i hi
    have hi : i < 8 := by simpa using hi
    have e2 : bitAt l (8 * j + i) = bitI l[j] (7 - i) := by
      unfold bitAt
      rw [show (8 * j + i) / 8 = j from by omega, show (8 * j + i) % 8 = i from by omega, List.getD_eq_getElem?_getD, List.getElem?_eq_getElem hj2]
      rfl
    by_cases hN : 8 * j + i < N
    · rw [unpack_get l N _ hN, e2]
    · rw [← e2, h3 (8 * j + i) (by omega) (by omega), List.getD_eq_getElem?_getD, List.getElem?_eq_none (by rw [unpack_len]; omega)]
      rfl
theorem okB_pack (s : List Bool) : okB (pack s) s.length := by
  have hl := pack_len s
  refine ⟨by omega, by omega, by omega, fun i h1 h2 => ?_⟩
  unfold bitAt
  rw [pack_get s (i / 8) (by omega), bit_byteAt s (i / 8) (i % 8) (by omega), List.getD_eq_getElem?_getD, List.getElem?_eq_none (by omega)]
  rfl

/-- One bit more. -/
theorem val_set (s : List Bool) (p : Nat) (b : Bool) (hp : p < s.length) (hf : s.getD p false = false) : valF 0 (s.set p b) = valF 0 s + b2i b * 2 ^ (s.length - 1 - p) := by
  have e : s = s.take p ++ false :: s.drop (p + 1) := by
    rw [List.getD_eq_getElem?_getD, List.getElem?_eq_getElem hp] at hf
    have hf : s[p] = false := by simpa using hf
    rw [← hf, ← List.drop_eq_getElem_cons hp, List.take_append_drop]
  have e2 : s.set p b = s.take p ++ b :: s.drop (p + 1) := by
    rw [List.set_eq_take_append_cons_drop, if_pos hp]
  have hd : (s.drop (p + 1)).length = s.length - 1 - p := by simp; omega
  have e3 : valF 0 s = valF (valF 0 (s.take p)) (false :: s.drop (p + 1)) := by rw [← valF_append, ← e]
  rw [e2, e3, valF_append]
  simp only [valF]
  rw [valF_acc (s.drop (p + 1)) (2 * valF 0 (s.take p) + b2i b), valF_acc (s.drop (p + 1)) (2 * valF 0 (s.take p) + b2i false), hd, Int.add_mul, Int.add_mul]
  simp [b2i]
  omega
theorem byteAt_snoc (s : List Bool) (b : Bool) : byteAt (s ++ [b]) (s.length / 8) = byteAt s (s.length / 8) + b2i b * 2 ^ (7 - s.length % 8) := by
  unfold byteAt
  have e : (eight fun i => (s ++ [b]).getD (8 * (s.length / 8) + i) false) = (eight fun i => s.getD (8 * (s.length / 8) + i) false).set (s.length % 8) b := by
    apply List.ext_getElem
    · simp [eight]
    · intro i h1 h2
      have hi : i < 8 := by simpa [eight] using h1
      rw [List.getElem_set]
      simp only [eight, List.getElem_map, List.getElem_range]
      by_cases h : s.length % 8 = i
      · rw [if_pos h, show 8 * (s.length / 8) + i = s.length from by omega]
        simp
      · rw [if_neg h]
        by_cases h' : 8 * (s.length / 8) + i < s.length
        · simp [List.getD_eq_getElem?_getD, List.getElem?_append_left h']
        · rw [List.getD_eq_getElem?_getD, List.getD_eq_getElem?_getD, List.getElem?_eq_none (by simp; omega), List.getElem?_eq_none (by omega)]
  have hp : s.length % 8 < 8 := Nat.mod_lt _ (by decide)
  rw [e, val_set _ _ _ (by rw [eight_len]; exact hp) (by rw [eight_get _ _ hp, show 8 * (s.length / 8) + s.length % 8 = s.length from by omega]; simp), eight_len]
theorem byteAt_old (s : List Bool) (b : Bool) (j : Nat) (h : j ≠ s.length / 8) : byteAt (s ++ [b]) j = byteAt s j := by
  unfold byteAt
  congr 1
  unfold eight
  apply List.map_congr_left
  intro i hi
  have hi : i < 8 := by simpa using hi
  by_cases h' : 8 * j + i < s.length
  · simp [List.getD_eq_getElem?_getD, List.getElem?_append_left h']
  · rw [List.getD_eq_getElem?_getD, List.getD_eq_getElem?_getD, List.getElem?_eq_none (by simp; omega), List.getElem?_eq_none (by omega)]
theorem byteAt_end (s : List Bool) (h : s.length % 8 = 0) : byteAt s (s.length / 8) = 0 := by
  unfold byteAt
  have : (eight fun i => s.getD (8 * (s.length / 8) + i) false) = eight fun _ => false := by
    unfold eight
    apply List.map_congr_left
    intro i hi
    rw [List.getD_eq_getElem?_getD, List.getElem?_eq_none (by omega)]
    rfl
  rw [this]
  decide
/-- The bytes with room for one bit more. -/
def room (s : List Bool) : List Int := if s.length % 8 = 0 then pack s ++ [0] else pack s
theorem room_len (s : List Bool) : (room s).length = s.length / 8 + 1 := by
  unfold room
  split <;> simp [pack_len] <;> omega
theorem room_get (s : List Bool) : (room s).getD (s.length / 8) 0 = byteAt s (s.length / 8) := by
  unfold room
  split
  · rename_i h
    rw [byteAt_end s h, List.getD_eq_getElem?_getD, List.getElem?_append_right (by rw [pack_len]; omega), pack_len, show s.length / 8 - (s.length + 7) / 8 = 0 from by omega]
    rfl
  · exact pack_get s _ (by omega)
theorem pack_snoc (s : List Bool) (b : Bool) : pack (s ++ [b]) = (room s).set (s.length / 8) (byteAt s (s.length / 8) + b2i b * 2 ^ (7 - s.length % 8)) := by
  apply List.ext_getElem
  · simp [pack_len, room_len]; omega
  · intro j h1 h2
    have hj : j < s.length / 8 + 1 := by simpa [room_len] using h2
    have e1 : (pack (s ++ [b]))[j] = byteAt (s ++ [b]) j := by
      have := pack_get (s ++ [b]) j (by simp; omega)
      rw [List.getD_eq_getElem?_getD, List.getElem?_eq_getElem h1] at this
      exact this
    rw [e1, List.getElem_set]
    by_cases h : s.length / 8 = j
    · rw [if_pos h, ← h, byteAt_snoc]
    · rw [if_neg h, byteAt_old s b j (Ne.symm h)]
      have hj' : j < (pack s).length := by rw [pack_len]; omega
      have e2 := pack_get s j (by rw [pack_len] at hj'; exact hj')
      rw [List.getD_eq_getElem?_getD, List.getElem?_eq_getElem hj'] at e2
      have e3 : (pack s)[j] = byteAt s j := by simpa using e2
      rw [← e3]
      unfold room
      split
      · rw [List.getElem_append_left hj']
      · rfl
end Go.Gh
/-
  Bits in a row with noughts behind them are the same bytes.
-/
namespace Go.Gh
theorem low_bits' (z : Int) (m : Nat) : (∀ j, j < m → bitI z j = false) ↔ z % 2 ^ m = 0 := by
  constructor
  · intro h
    rw [← val_signs]
    have : ∀ k, k ≤ m → ∀ s acc, acc = 0 → s = signs z k → valF acc s = 0 := by
      intro k
      induction k with
      | zero => intro _ s acc ha hs; subst ha hs; rfl
      | succ k ih =>
        intro hk s acc ha hs
        subst ha hs
        simp only [signs, valF]
        exact ih (by omega) _ _ (by rw [h k (by omega)]; rfl) rfl
    exact this m (Nat.le_refl _) _ 0 rfl rfl
  · intro h j hj
    rw [← bitI_mod z m j hj, h, bitI_zero]
theorem getD_pad (s : List Bool) (m i : Nat) : (s ++ List.replicate m false).getD i false = s.getD i false := by
  rw [List.getD_eq_getElem?_getD, List.getD_eq_getElem?_getD]
  by_cases h : i < s.length
  · rw [List.getElem?_append_left h]
  · rw [List.getElem?_append_right (by omega), List.getElem?_eq_none (by omega : s.length ≤ i)]
    by_cases h2 : i - s.length < m
    · rw [List.getElem?_replicate, if_pos h2]; rfl
    · rw [List.getElem?_replicate, if_neg h2]
theorem pack_pad (s : List Bool) (m : Nat) (h : (s.length + m + 7) / 8 = (s.length + 7) / 8) : pack (s ++ List.replicate m false) = pack s := by
  unfold pack
  rw [List.length_append, List.length_replicate, h]
  apply List.map_congr_left
  intro j _
  unfold byteAt eight
  congr 1
  apply List.map_congr_left
  intro i _
  exact getD_pad s m _
theorem chunk_eight (s : List Bool) (j : Nat) (h : 8 * j + 8 ≤ s.length) : (s.drop (8 * j)).take 8 = eight fun i => s.getD (8 * j + i) false := by
  apply List.ext_getElem
  · simp [eight]; omega
  · intro i h1 h2
    have hi : i < 8 := by simpa [eight] using h2
    simp [eight, List.getElem_take, List.getElem_drop, List.getD_eq_getElem?_getD, List.getElem?_eq_getElem (show 8 * j + i < s.length by omega)]
end Go.Gh
/-
  Times as bits, as a plain function.
-/
namespace Go.Gh
open Go.RowKit
set_option linter.unusedVariables false

def wU (c : Int) : Int := IntKind.u64.wrap c
def wI (c : Int) : Int := IntKind.i64.wrap c
theorem wU_bd (c : Int) : 0 ≤ wU c ∧ wU c < 18446744073709551616 := by unfold wU; rw [IntKind.wrap_u64]; omega
def fitN (c : Int) (k : Nat) : Prop := match k with
  | 0 => c = 0
  | 1 => -64 ≤ c ∧ c ≤ 63
  | 2 => -256 ≤ c ∧ c ≤ 255
  | 3 => -2048 ≤ c ∧ c ≤ 2047
  | _ => True
instance (c : Int) (k : Nat) : Decidable (fitN c k) := by unfold fitN; split <;> infer_instance
def chBits (c : Int) : List Bool :=
  if c = 0 then [false] else if -64 ≤ c ∧ c ≤ 63 then [true, false] ++ signs (wU c) 7 else if -256 ≤ c ∧ c ≤ 255 then [true, true, false] ++ signs (wU c) 9
  else if -2048 ≤ c ∧ c ≤ 2047 then [true, true, true, false] ++ signs (wU c) 12 else [true, true, true, true] ++ signs (wU c) 64
theorem chBits_len (c : Int) : (chBits c).length ≤ 68 := by
  unfold chBits
  split
  · simp
  · split
    · rw [List.length_append, signs_len]; simp
    · split
      · rw [List.length_append, signs_len]; simp
      · split
        · rw [List.length_append, signs_len]; simp
        · rw [List.length_append, signs_len]; simp
def stepAt (l : List Int) (k : Nat) : Int := if k ≤ 1 then 0 else wI (l.getD (k - 1) 0 - l.getD (k - 2) 0)
def chAt (l : List Int) (k : Nat) : Int := wI (wI (l.getD k 0 - l.getD (k - 1) 0) - stepAt l k)
def tsTo (l : List Int) : Nat → List Bool
  | 0 => signs l.length 16
  | 1 => signs l.length 16 ++ signs (wU (l.getD 0 0)) 64
  | k + 2 => tsTo l (k + 1) ++ chBits (chAt l (k + 1))
theorem ts_zero (l : List Int) : tsTo l 0 = signs l.length 16 := rfl
theorem ts_first (l : List Int) : tsTo l 1 = tsTo l 0 ++ signs (wU (l.getD 0 0)) 64 := rfl
theorem ts_next (l : List Int) (k : Nat) : tsTo l (k + 1 + 1) = tsTo l (k + 1) ++ chBits (chAt l (k + 1)) := rfl
theorem ts_len (l : List Int) : ∀ k, (tsTo l k).length ≤ 80 + 68 * k
  | 0 => by rw [ts_zero, signs_len]; omega
  | 1 => by rw [ts_first, ts_zero, List.length_append, signs_len, signs_len]; omega
  | k + 2 => by
    rw [ts_next, List.length_append]
    have := ts_len l (k + 1)
    have := chBits_len (chAt l (k + 1))
    omega
end Go.Gh
/-
  Words shared by the walks of this seat: a slice's value reads as a list of cells, and what that gives.
-/
namespace Go.Gh
open Go.RowKit Go.ChangeShapes Go.WideShapes Go.ChangeAt
set_option linter.unusedVariables false

theorem ret_int {k : IntKind} {a b : Int} (h : a = b) : Ending.returned (.int k a) = .returned (.int k b) := by rw [h]
theorem ret_str {a b : ByteArray} (h : a = b) : Ending.returned (.string a) = .returned (.string b) := by rw [h]
theorem ret_bool {a b : Bool} (h : a = b) : Ending.returned (.bool a) = .returned (.bool b) := by rw [h]

theorem wf_u8 {z : Int} (h : (Lit.int .u8 z).wf = true) : 0 ≤ z ∧ z < 256 := by
  simp [Lit.wf, IntKind.min, IntKind.max, IntKind.signed, IntKind.bits] at h
  omega
theorem wf_u64 {z : Int} (h : (Lit.int .u64 z).wf = true) : 0 ≤ z ∧ z < 18446744073709551616 := by
  simp [Lit.wf, IntKind.min, IntKind.max, IntKind.signed, IntKind.bits] at h
  omega
theorem wf_i64 {z : Int} (h : (Lit.int .i64 z).wf = true) : -9223372036854775808 ≤ z ∧ z < 9223372036854775808 := by
  simp [Lit.wf, IntKind.min, IntKind.max, IntKind.signed, IntKind.bits] at h
  omega

/-- The slice value v has n elements of 'size' cells each, and they are the cells xs. -/
def Sl (w : World) (size : Nat) (v : Value) (n : Nat) (xs : List Value) : Prop :=
  ∃ ao cap, v = .slice ao n cap ∧ n ≤ cap ∧ cap ≤ maxLen ∧ (ao = none → cap = 0) ∧ xs.length = n * size ∧
    (0 < n → ∃ b off, ao = some ⟨b, off, none⟩ ∧ ∀ i u, xs[i]? = some u → w.cell? ⟨b, off + i, none⟩ = some u)

theorem addr_add (b off i : Nat) : (⟨b, off, none⟩ : Addr).add i = ⟨b, off + i, none⟩ := by
  unfold Addr.add; split <;> simp_all

theorem cell_lt {w : World} {b o : Nat} {s : Option Nat} {u : Value} (h : w.cell? ⟨b, o, s⟩ = some u) : b < w.heap.size := by
  rcases Nat.lt_or_ge b w.heap.size with h' | h'
  · exact h'
  · simp [World.cell?, Array.getElem?_eq_none h'] at h

/-- What a reading gives stays as it is in a world that keeps what was there. -/
theorem Sl.below {w w' : World} {size n : Nat} {v : Value} {xs : List Value} (h : Sl w size v n xs) (hb : Below w.heap.size w w') : Sl w' size v n xs := by
  obtain ⟨ao, cap, h1, h2, h3, h4, h5, h6⟩ := h
  refine ⟨ao, cap, h1, h2, h3, h4, h5, fun hn => ?_⟩
  obtain ⟨b, off, ha, hc⟩ := h6 hn
  refine ⟨b, off, ha, fun i u hu => ?_⟩
  have := hc i u hu
  exact (hb.cell (p := ⟨b, off + i, none⟩) (cell_lt this)).trans this

theorem own_sl {w : World} {base : Nat} {e : TypeId} {size : Nat} {v : Value} {n : Nat} {xs : List Value} (h : w.ownsRow base e size v n xs) : Sl w size v n xs := by
  obtain ⟨hl, h | ⟨g, cap, cur, rfl, hb, hg, hn, hm, hs, ht⟩⟩ := h
  · obtain ⟨rfl, rfl⟩ := h
    exact ⟨none, 0, rfl, Nat.le_refl _, Nat.zero_le _, fun _ => rfl, hl, fun h => absurd h (Nat.lt_irrefl _)⟩
  · refine ⟨_, cap, rfl, hn, hm, fun h => by simp at h, hl, fun _ => ⟨g, 0, rfl, fun i u hu => ?_⟩⟩
    have h : w.ownsRow base e size (.slice (some ⟨g, 0, none⟩) n cap) n xs := ⟨hl, .inr ⟨g, cap, cur, rfl, hb, hg, hn, hm, hs, ht⟩⟩
    have := h.cells (g := g) rfl i u hu
    rwa [addr_add] at this

section
variable {H : Type} {enc : TypeId × Value → H} {P : Program} {W : World} {base : Nat} {spare : Nat → Bool} {held : Bool}

/-- A slice of integers that came in, as 'Sl'. -/
theorem sl_ints {t e : TypeId} {k : IntKind} {fuel : Nat} {v : Value} {x : DataW H × List MemPlace} (ht : P.underlying t = some (.slice e)) (he : P.underlying e = some (.int k)) (hc : P.cellsOf e = 1)
    (h : DataW.trod enc P W base spare held fuel t [v] = some x) (hs : ∀ n ∈ x.1.weights P t, n ≤ reachBytes) :
    ∃ (n : Nat) (zs : List Int), Sl W 1 v n (zs.map (Value.int k)) ∧ (∀ z ∈ zs, (Lit.int k z).wf = true) ∧ n * P.bytesOf e ≤ reachBytes := by
  rcases open_ints ht he hc h with ⟨hcs, _⟩ | ⟨a, len, cap, zs, hcs, _, hl, hm, hz, hx, hcell, hwz⟩
  · obtain rfl : v = .slice none 0 0 := by simpa using hcs
    exact ⟨0, [], ⟨none, 0, rfl, Nat.le_refl _, Nat.zero_le _, fun _ => rfl, by simp, fun h => absurd h (Nat.lt_irrefl _)⟩, by simp, by simp⟩
  · obtain rfl : v = .slice (some a) len cap := by simpa using hcs
    have hlz : len ≤ zs.length := by rw [hz]; split <;> omega
    refine ⟨len, zs.take len, ⟨some a, cap, rfl, hl, hm, fun h => by simp at h, by simp; omega, fun hn => ?_⟩, fun z hz' => hwz z (List.mem_of_mem_take hz'), ?_⟩
    · have h0 := hcell 0 (by omega)
      obtain ⟨b, off, spot⟩ := a
      have hs := World.cell?_spot h0
      simp [Addr.add] at hs
      subst hs
      refine ⟨b, off, rfl, fun i u hu => ?_⟩
      have hi : i < len := by
        rcases Nat.lt_or_ge i len with h' | h'
        · exact h'
        · rw [List.getElem?_eq_none (by simp; omega)] at hu; simp at hu
      have := hcell i (by omega)
      rw [addr_add] at this
      rw [this]
      have hi' : i < zs.length := by omega
      simp [List.getElem?_map, hi, List.getElem?_eq_getElem hi'] at hu
      rw [← hu, List.getD_eq_getElem?_getD, List.getElem?_eq_getElem hi']
      rfl
    · have := hs ((lits (H := H) k (zs.take len)).length + (lits (H := H) k (zs.drop len)).length |>.mul (P.bytesOf e)) (by rw [hx]; simp [DataW.weights, ht])
      refine Nat.le_trans (Nat.mul_le_mul_right _ ?_) this
      simp [lits]
      omega
end

/-- An element of a slice of integers: its cell. -/
theorem Sl.int {w : World} {ao : Option Addr} {n c : Nat} {k : IntKind} {zs : List Int} (h : Sl w 1 (.slice ao n c) n (zs.map (Value.int k))) {i : Nat} (hi : i < n) :
    ∃ b off, ao = some ⟨b, off, none⟩ ∧ w.cell? ⟨b, off + i, none⟩ = some (.int k (zs.getD i 0)) := by
  obtain ⟨ao', cap, h1, h2, h3, h4, h5, h6⟩ := h
  simp at h1 h5
  obtain ⟨rfl, rfl⟩ := h1
  obtain ⟨b, off, rfl, hc⟩ := h6 (by omega)
  refine ⟨b, off, rfl, hc i _ ?_⟩
  have : i < zs.length := by omega
  simp [this]

/-- An element of a slice of bytes: its cell, its bounds; its name is hidden. -/
theorem Sl.byte {w : World} {ao : Option Addr} {n c : Nat} {zs : List Int} (h : Sl w 1 (.slice ao n c) n (zs.map (Value.int .u8))) (hl : ∀ z ∈ zs, (Lit.int .u8 z).wf = true) {i : Nat} (hi : i < n) :
    ∃ b off z, ao = some ⟨b, off, none⟩ ∧ w.cell? ⟨b, off + i, none⟩ = some (.int .u8 z) ∧ 0 ≤ z ∧ z < 256 ∧ Hid (zs.getD i 0 = z) := by
  obtain ⟨b, off, ha, hc⟩ := h.int hi
  obtain ⟨_, _, _, _, _, _, h5, _⟩ := h
  have hi' : i < zs.length := by simp at h5; omega
  have := wf_u8 (hl (zs.getD i 0) (by rw [List.getD_eq_getElem?_getD, List.getElem?_eq_getElem hi']; exact List.getElem_mem _))
  exact ⟨b, off, _, ha, hc, this.1, this.2, Lib.hid rfl⟩

theorem Sl.shape {w : World} {v : Value} {n size : Nat} {xs : List Value} (h : Sl w size v n xs) : ∃ ao c, v = .slice ao n c ∧ n ≤ c ∧ c ≤ 9223372036854775807 ∧ xs.length = n * size := by
  obtain ⟨ao, cap, rfl, h2, h3, h4, h5, h6⟩ := h
  exact ⟨ao, cap, rfl, h2, h3, h5⟩


/-! ### What an argument that came in is known as -/
def IsInt (k : IntKind) (w : World) (v : Value) : Prop := ∃ n, v = .int k n ∧ (Lit.int k n).wf = true
def IsInts (k : IntKind) (w : World) (v : Value) : Prop := ∃ (n : Nat) (zs : List Int), Sl w 1 v n (zs.map (Value.int k)) ∧ (∀ z ∈ zs, (Lit.int k z).wf = true) ∧ n ≤ 140737488355328
def IsString (w : World) (v : Value) : Prop := ∃ s : ByteArray, v = .string s ∧ s.size ≤ 140737488355328

theorem reach_le {n b : Nat} (h : n * b ≤ reachBytes) (hb : 0 < b) : n ≤ 140737488355328 := by
  have h1 : reachBytes ≤ 140737488355328 := by decide
  have h2 : n * 1 ≤ n * b := Nat.mul_le_mul_left n hb
  omega

section
variable {H : Type} {enc : TypeId × Value → H} {P : Program} {W : World} {base b0 : Nat} {r : Reach} {spare : Nat → Bool} {held : Bool} {t e : TypeId} {k : IntKind} {v : Value} {d : DataW H} {ps : List MemPlace}
theorem rd_int {fuel : Nat} {x : DataW H × List MemPlace} (ht : P.underlying t = some (.int k)) (h : DataW.trod enc P W base spare held fuel t [v] = some x) : IsInt k W v := by
  obtain ⟨n, h1, _, hw⟩ := DataW.trod_int ht h
  exact ⟨n, by simpa using h1, hw⟩
theorem rd_ints {fuel : Nat} {x : DataW H × List MemPlace} (ht : P.underlying t = some (.slice e)) (he : P.underlying e = some (.int k)) (hc : P.cellsOf e = 1) (hb : 0 < P.bytesOf e)
    (h : DataW.trod enc P W base spare held fuel t [v] = some x) (hs : ∀ n ∈ x.1.weights P t, n ≤ reachBytes) : IsInts k W v := by
  obtain ⟨n, zs, h1, h2, h3⟩ := sl_ints ht he hc h hs
  exact ⟨n, zs, h1, h2, reach_le h3 hb⟩
theorem isInt_of (ht : P.underlying t = some (.int k)) (hv : Value.okWide P W r b0 t v) (hd : DataW.Trod enc P W base spare held t v d ps) (hs : ∀ n ∈ d.weights P t, n ≤ reachBytes) : IsInt k W v := by
  obtain ⟨n, h1, _, _, h2⟩ := open_int ht hv hd
  exact ⟨n, h1, h2⟩
theorem isInts_of (ht : P.underlying t = some (.slice e)) (he : P.underlying e = some (.int k)) (hc : P.cellsOf e = 1) (hb : 0 < P.bytesOf e) (hv : Value.okWide P W r b0 t v) (hd : DataW.Trod enc P W base spare held t v d ps) (hs : ∀ n ∈ d.weights P t, n ≤ reachBytes) : IsInts k W v := by
  obtain ⟨a, l, c, rfl⟩ := okWide_slice ht hv
  obtain ⟨fuel, hf⟩ := hd
  exact rd_ints ht he hc hb (by simpa [Value.cells] using hf) hs
theorem isString_of (ht : P.underlying t = some .string) (hv : Value.okWide P W r b0 t v) (hd : DataW.Trod enc P W base spare held t v d ps) (hs : ∀ n ∈ d.weights P t, n ≤ reachBytes) : IsString W v := by
  obtain ⟨s, rfl, rfl, _, _⟩ := Go.ChangeMaps.open_string ht hv hd
  have := hs s.data.toList.length (by simp [DataW.weights])
  have h1 : reachBytes ≤ 140737488355328 := by decide
  exact ⟨s, rfl, by simp at this; have e : s.size = s.data.size := rfl; omega⟩
theorem trod_lt' (hd : DataW.Trod enc P W base spare held t v d ps) : ∀ x ∈ ps, x.block < W.heap.size := by
  obtain ⟨m, hm⟩ := hd
  exact DataW.trod_lt m _ _ _ hm
theorem sized_at {ts : List TypeId} {ds : List (DataW H)} (h : (DataW.weightsEach P ts ds).all (fun n => decide (n ≤ reachBytes)) = true) (j : Nat) {t : TypeId} {d : DataW H} (ht : ts[j]? = some t) (hd : ds[j]? = some d) : ∀ n ∈ d.weights P t, n ≤ reachBytes := by
  intro n hn
  have := List.all_eq_true.1 h _ (DataW.weights_mem_each ht hd n hn)
  simpa using this
end

/-! ### append of one element to a row of the call's own -/
structure Elem (P : Program) (t e : TypeId) (size bytes : Nat) : Prop where
  und : P.underlying t = some (.slice e)
  info : ∃ i z, P.info? e = some i ∧ i.zero = some z ∧ i.size = size ∧ i.bytes = bytes ∧ z.cells.size = size
  pos : 0 < size

theorem elem_of {P : Program} {t e : TypeId} {z : Value} {size bytes : Nat} (hu : P.underlying t = some (.slice e)) (h : (P.info? e).map (fun i => (i.zero, i.size, i.bytes)) = some (some z, size, bytes)) (hz : z.cells.size = size) (hp : 0 < size) : Elem P t e size bytes := by
  obtain ⟨i, h1, h2, h3, h4⟩ := info_parts h
  exact ⟨hu, ⟨i, z, h1, h2, h3, h4, hz⟩, hp⟩

theorem fresh_cells (W : World) (cells : List Value) (e : TypeId) (j : Nat) (u : Value) (h : cells[j]? = some u) : (W.alloc (.cells cells.toArray e)).cell? ((⟨W.heap.size, 0, none⟩ : Addr).add j) = some u := by
  rw [addr_add, cell_of_row _ _ _ _ e (0, 0) (heap_alloc_new W _)]
  simpa using h

theorem grown_trans {a b c : World} {row : Option Nat} (h : a.grownBy b row) (k : b.grownBy c row) : a.grownBy c row :=
  ⟨k.os.trans h.os, k.tape.trans h.tape, k.output.trans h.output, Nat.le_trans h.size k.size, fun j hj hne => (k.block j (Nat.lt_of_lt_of_le hj h.size) hne).trans (h.block j hj hne)⟩

theorem append1 {P : Program} {ops : Array Oper} {rest : List Oper} {o : Oper} {a : Act} {Q : Exit → Act → World → Prop} {w0 W : World} {B : Nat} {t e : TypeId} {size bytes n : Nat} {xs : List Value} {v : Value} (cells : List Value)
    (el : Elem P t e size bytes) (hgd : o.guard = none) (s x : Operand) (ho : o.op = .call { callee := .builtin .append, args := #[s, x], argTypes := #[t, t] })
    (hown : W.ownsRow B e size v n xs) (hbel : Below B w0 W) (hB : B ≤ W.heap.size) (hs : a.eval s = v) (hx : a.eval x = .slice (some ⟨W.heap.size, 0, none⟩) 1 1)
    (hl : cells.length = size) (h1 : ∀ u ∈ cells, u.oneCell' = true) (h47 : (n + 1) * bytes ≤ 140737488355328) (h63 : n + 1 ≤ 9223372036854775807)
    (h : ∀ v' w', w'.ownsRow B e size v' (n + 1) (xs ++ cells) → Below B w0 w' → W.grownBy w' v.ownBlock → wpList P ops Q rest (a.put o.dst v') w') :
    wpList P ops Q (o :: rest) a (W.alloc (.cells cells.toArray e)) := by
  obtain ⟨i, z, h2, h3, h4, h5, h6⟩ := el.info
  refine wpList_append_own _ hgd s x t ho B e i z size bytes el.und h2 h3 h4 h5 h6 el.pos v n xs hs (hown.alloc _) ⟨W.heap.size, 0, none⟩ 1 1 cells hx (by rw [Nat.one_mul]; exact hl) (fresh_cells W cells e) h1 (by unfold maxLen; exact h63) h47 (by simp; omega) ?_
  intro v' w' hown' hg _
  refine h v' w' hown' ?_ ?_
  · refine Below.grown (hbel.alloc hB _) hg (by simp; omega) ?_
    intro k hk
    exact (hown.lt k hk).1
  · exact grown_trans (World.grownBy_alloc W _ _) hg

theorem one_all (u : Value) (h : u.oneCell' = true) : ∀ x ∈ [u], x.oneCell' = true := by
  intro x hx; simp at hx; subst hx; exact h
theorem ret_eq {a b : Value} (h : a = b) : Ending.returned a = .returned b := by rw [h]

theorem own_build (W : World) {B : Nat} {e : TypeId} {size n : Nat} (cells : List Value) (hB : B ≤ W.heap.size) (hl : cells.length = n * size) (hn : n ≤ 9223372036854775807) :
    (W.alloc (.cells cells.toArray e)).ownsRow B e size (.slice (some ⟨W.heap.size, 0, none⟩) n n) n cells :=
  ⟨hl, .inr ⟨W.heap.size, n, cells.toArray, rfl, hB, heap_alloc_new W _, Nat.le_refl _, hn, by simpa using hl, by rw [List.take_of_length_le (by simp; omega)]⟩⟩

theorem own_below {w w' : World} {B : Nat} {e : TypeId} {size : Nat} {v : Value} {n : Nat} {xs : List Value} (h : w.ownsRow B e size v n xs) (hb : Below w.heap.size w w') : w'.ownsRow B e size v n xs := by
  refine ⟨h.1, ?_⟩
  rcases h.2 with hn | ⟨g, cap, cur, rfl, hb', hgg, rest⟩
  · exact .inl hn
  · refine .inr ⟨g, cap, cur, rfl, hb', ?_, rest⟩
    rw [hb.block g (Array.getElem?_eq_some_iff.1 hgg).1]
    exact hgg
theorem own_mono {w : World} {B B' : Nat} {e : TypeId} {size : Nat} {v : Value} {n : Nat} {xs : List Value} (h : w.ownsRow B e size v n xs) (hb : B' ≤ B) : w.ownsRow B' e size v n xs := by
  refine ⟨h.1, ?_⟩
  rcases h.2 with hn | ⟨g, cap, cur, rfl, hb', rest⟩
  · exact .inl hn
  · exact .inr ⟨g, cap, cur, rfl, Nat.le_trans hb hb', rest⟩
theorem own_some {w : World} {B : Nat} {e : TypeId} {size : Nat} {v : Value} {n : Nat} {xs : List Value} (h : w.ownsRow B e size v n xs) (hn : 0 < n) : ∃ g cap, v = .slice (some ⟨g, 0, none⟩) n cap ∧ B ≤ g ∧ g < w.heap.size ∧ n ≤ cap ∧ cap ≤ 9223372036854775807 ∧ ∀ j u, xs[j]? = some u → w.cell? ⟨g, j, none⟩ = some u := by
  have h0 := h
  rcases h.2 with ⟨rfl, hz⟩ | ⟨g, cap, cur, rfl, hb', hgg, h1, h2, h3, h4⟩
  · omega
  · refine ⟨g, cap, rfl, hb', (Array.getElem?_eq_some_iff.1 hgg).1, h1, h2, fun j u hu => ?_⟩
    have := h0.cells (g := g) rfl j u hu
    rw [addr_add] at this
    simpa using this

/-- append of a slice that is not empty to a row of the call's own. -/
theorem appendN {P : Program} {ops : Array Oper} {rest : List Oper} {o : Oper} {a : Act} {Q : Exit → Act → World → Prop} {w0 W : World} {B : Nat} {t e : TypeId} {size bytes n m c b off : Nat} {xs news : List Value} {v : Value}
    (el : Elem P t e size bytes) (hgd : o.guard = none) (s x : Operand) (ho : o.op = .call { callee := .builtin .append, args := #[s, x], argTypes := #[t, t] })
    (hown : W.ownsRow B e size v n xs) (hbel : Below B w0 W) (hB : B ≤ W.heap.size) (hs : a.eval s = v) (hx : a.eval x = .slice (some ⟨b, off, none⟩) m c)
    (hl : news.length = m * size) (hnews : ∀ j u, news[j]? = some u → W.cell? ⟨b, off + j, none⟩ = some u) (h1 : ∀ u ∈ news, u.oneCell' = true) (h47 : (n + m) * bytes ≤ 140737488355328) (h63 : n + m ≤ 9223372036854775807)
    (h : ∀ v' w', w'.ownsRow B e size v' (n + m) (xs ++ news) → Below B w0 w' → W.grownBy w' v.ownBlock → wpList P ops Q rest (a.put o.dst v') w') :
    wpList P ops Q (o :: rest) a W := by
  obtain ⟨i, z, h2, h3, h4, h5, h6⟩ := el.info
  refine wpList_append_own _ hgd s x t ho B e i z size bytes el.und h2 h3 h4 h5 h6 el.pos v n xs hs hown ⟨b, off, none⟩ m c news hx hl (fun j u hu => by rw [addr_add]; exact hnews j u hu) h1 (by unfold maxLen; exact h63) h47 hB ?_
  intro v' w' hown' hg _
  refine h v' w' hown' ?_ hg
  refine Below.grown hbel hg hB ?_
  intro k hk
  exact (hown.lt k hk).1

/-! ### bytes as a string -/
def bstr (l : List Int) : ByteArray := ⟨(l.map fun z => UInt8.ofNat z.toNat).toArray⟩
theorem foldl_push (l : List Int) : ∀ (s : ByteArray), l.foldl (fun r n => r.push (UInt8.ofNat n.toNat)) s = ⟨s.data ++ (l.map fun z => UInt8.ofNat z.toNat).toArray⟩ := by
  induction l with
  | nil => intro s; simp
  | cons z l ih =>
    intro s
    rw [List.foldl_cons, ih]
    simp [ByteArray.push]
theorem bstr_inj {l l' : List Int} (h1 : ∀ z ∈ l, (Lit.int .u8 z).wf = true) (h2 : ∀ z ∈ l', (Lit.int .u8 z).wf = true) (h : bstr l = bstr l') : l = l' := by
  have h : l.map (fun z => UInt8.ofNat z.toNat) = l'.map (fun z => UInt8.ofNat z.toNat) := by
    have := congrArg (fun b : ByteArray => b.data.toList) h
    simpa [bstr] using this
  induction l generalizing l' with
  | nil => cases l' with
    | nil => rfl
    | cons b l' => simp at h
  | cons a l ih => cases l' with
    | nil => simp at h
    | cons b l' =>
      simp only [List.map_cons, List.cons.injEq] at h
      have ha := wf_u8 (h1 a (by simp))
      have hb := wf_u8 (h2 b (by simp))
      have e := congrArg UInt8.toNat h.1
      rw [UInt8.toNat_ofNat', UInt8.toNat_ofNat'] at e
      have : a = b := by omega
      subst this
      rw [ih (fun z hz => h1 z (by simp [hz])) (fun z hz => h2 z (by simp [hz])) (by rename_i h0; exact congrArg (fun l : List UInt8 => ByteArray.mk l.toArray) h.2) h.2]

theorem run_bytes {P : Program} {w : World} {v : Value} {n : Nat} {l : List Int} {src dst e : TypeId} (hs : P.underlying src = some (.slice e)) (he : P.underlying e = some (.int .u8)) (hd : P.underlying dst = some .string)
    (hv : Sl w 1 v n (l.map (Value.int .u8))) : (convert src dst v).run P w = .ok (.string (bstr l)) w := by
  obtain ⟨ao, c, rfl, h1, h2, h3⟩ := hv.shape
  rw [run_convert_bytes_string w src dst e ao n c hs he hd]
  have hln : l.length = n := by simpa using h3
  cases ao with
  | none =>
    have : n = 0 := by
      rcases Nat.eq_zero_or_pos n with h | h
      · exact h
      · obtain ⟨ao', cap, h1, _, _, _, _, h6⟩ := hv
        obtain ⟨b, off, h, _⟩ := h6 h
        simp at h1
        rw [h] at h1; simp at h1
    have : l = [] := List.length_eq_zero_iff.1 (by omega)
    subst this
    simp [Conv.bytesToString, bstr, Sem.run_pure]
    rfl
  | some a =>
    have hload : (loadCells a n).run P w = .ok (l.map (Value.int .u8)).toArray w := by
      have := run_loadCells_list (P := P) w a (l.map (Value.int .u8)) (fun j u hu => by
        have hpos : 0 < n := by
          rcases Nat.lt_or_ge j (l.map (Value.int .u8)).length with h | h
          · simp at h; omega
          · rw [List.getElem?_eq_none h] at hu; simp at hu
        obtain ⟨ao', cap, h1, _, _, _, _, h6⟩ := hv
        obtain ⟨b, off, h, hc⟩ := h6 hpos
        simp at h1
        rw [h] at h1
        have ha : a = ⟨b, off, none⟩ := by simpa using h1.1
        subst ha
        rw [addr_add]
        exact hc j u hu)
      rwa [List.length_map, hln] at this
    rw [run_bytesToString w a n c l hload, foldl_push]
    simp [bstr]

/-- From here on only R is known of the world. -/
theorem wp_abs {P : Program} {c : Code} {Q : Exit → Act → World → Prop} {a : Act} {w0 : World} (R : World → Prop) (hR : R w0) (h : ∀ w1, R w1 → c.wp P Q a w1) : c.wp P Q a w0 := h _ hR

theorem Sl.alloc {w : World} {size n : Nat} {v : Value} {xs : List Value} (h : Sl w size v n xs) (o : Obj) : Sl (w.alloc o) size v n xs := h.below ((Below.refl _ _).alloc (Nat.le_refl _) o)
theorem sl_new (W : World) {e : TypeId} {size n : Nat} (cells : List Value) (hl : cells.length = n * size) (hn : n ≤ 9223372036854775807) : Sl (W.alloc (.cells cells.toArray e)) size (.slice (some ⟨W.heap.size, 0, none⟩) n n) n cells :=
  own_sl (own_build (B := 0) W cells (Nat.zero_le _) hl hn)
theorem cell_new (W : World) (e : TypeId) (cells : List Value) (j : Nat) (u : Value) (h : cells[j]? = some u) : (W.alloc (.cells cells.toArray e)).cell? ⟨W.heap.size, j, none⟩ = some u := by
  have := fresh_cells W cells e j u h
  rw [addr_add] at this
  simpa using this

/-- make([]T, 0, n). -/
theorem make0 {P : Program} {ops : Array Oper} {rest : List Oper} {o : Oper} {a : Act} {Q : Exit → Act → World → Prop} {w0 W : World} {B : Nat} {t e : TypeId} {size bytes : Nat}
    (el : Elem P t e size bytes) (hgd : o.guard = none) (l c : Operand) (ho : o.op = Op.makeSlice t l c) (kl kc : IntKind) (C : Int) (n : Nat) (hl : a.eval l = .int kl 0) (hc : a.eval c = .int kc C) (hC : C = (n : Int))
    (hb : bytes * n ≤ 281474976710656) (h63 : n ≤ 9223372036854775807) (hbel : Below B w0 W) (hB : B ≤ W.heap.size)
    (h : ∀ w', w'.ownsRow B e size (.slice (some ⟨W.heap.size, 0, none⟩) 0 n) 0 [] → Below B w0 w' → W.grownBy w' none → wpList P ops Q rest (a.put o.dst (.slice (some ⟨W.heap.size, 0, none⟩) 0 n)) w') :
    wpList P ops Q (o :: rest) a W := by
  obtain ⟨i, z, h2, h3, h4, h5, h6⟩ := el.info
  refine wpList_make_own W hgd l c t ho B e i z size el.und h2 h3 h4 kl kc C n hl hc hC (by rw [h5]; exact hb) (by unfold maxLen; exact h63) hB ?_
  intro w' h7 h8
  exact h w' h7 (Below.grown hbel h8 hB (fun k hk => by simp at hk)) h8

/-- append of whatever slice that has an address to a row of the call's own. -/
theorem appendS {P : Program} {ops : Array Oper} {rest : List Oper} {o : Oper} {a : Act} {Q : Exit → Act → World → Prop} {w0 W : World} {B : Nat} {t e : TypeId} {size bytes n m c : Nat} {ad : Addr} {xs news : List Value} {v : Value}
    (el : Elem P t e size bytes) (hgd : o.guard = none) (s x : Operand) (ho : o.op = .call { callee := .builtin .append, args := #[s, x], argTypes := #[t, t] })
    (hown : W.ownsRow B e size v n xs) (hbel : Below B w0 W) (hB : B ≤ W.heap.size) (hs : a.eval s = v) (hx : a.eval x = .slice (some ad) m c)
    (hsl : Sl W size (.slice (some ad) m c) m news) (h1 : ∀ u ∈ news, u.oneCell' = true) (h47 : (n + m) * bytes ≤ 140737488355328) (h63 : n + m ≤ 9223372036854775807)
    (h : ∀ v' w', w'.ownsRow B e size v' (n + m) (xs ++ news) → Below B w0 w' → W.grownBy w' v.ownBlock → wpList P ops Q rest (a.put o.dst v') w') :
    wpList P ops Q (o :: rest) a W := by
  obtain ⟨i, z, h2, h3, h4, h5, h6⟩ := el.info
  obtain ⟨ao', cap, e1, _, _, _, hl, hc⟩ := hsl
  simp at e1
  obtain ⟨rfl, rfl⟩ := e1
  refine wpList_append_own _ hgd s x t ho B e i z size bytes el.und h2 h3 h4 h5 h6 el.pos v n xs hs hown ad m c news hx hl ?_ h1 (by unfold maxLen; exact h63) h47 hB ?_
  · intro j u hu
    have hm : 0 < m := by
      rcases Nat.eq_zero_or_pos m with h | h
      · subst h
        have : news = [] := List.length_eq_zero_iff.1 (by simpa using hl)
        subst this; simp at hu
      · exact h
    obtain ⟨b, off, e2, hc'⟩ := hc hm
    have : ad = ⟨b, off, none⟩ := by simpa using e2
    subst this
    rw [addr_add]
    exact hc' j u hu
  · intro v' w' hown' hg _
    refine h v' w' hown' ?_ hg
    refine Below.grown hbel hg hB ?_
    intro k hk
    exact (hown.lt k hk).1
end Go.Gh
/-
  Plain facts about numbers as bytes: signs turned into the last bit, and groups of seven bits.
-/
namespace Go.Gh
open Go.RowKit

theorem u64_xor_zero (x : Int) (h0 : 0 ≤ x) (h1 : x < 18446744073709551616) : bits .xor .u64 x 0 = x := by
  rw [u64_xor x 0 h0 h1 (by decide) (by decide)]
  simp [Int.toNat_of_nonneg h0]

theorem u64_xor_ones (x : Int) (h0 : 0 ≤ x) (h1 : x < 18446744073709551616) : bits .xor .u64 x 18446744073709551615 = 18446744073709551615 - x := by
  obtain ⟨n, rfl⟩ := Int.eq_ofNat_of_zero_le h0
  have hn : n < 2 ^ 64 := by omega
  rw [u64_xor _ _ h0 h1 (by decide) (by decide), Int.toNat_natCast]
  have e : (18446744073709551615 : Int).toNat = (BitVec.allOnes 64).toNat := by decide
  have e2 : n = (BitVec.ofNat 64 n).toNat := by simp [Nat.mod_eq_of_lt hn]
  rw [e]
  have e3 : n ^^^ (BitVec.allOnes 64).toNat = (BitVec.ofNat 64 n ^^^ BitVec.allOnes 64).toNat := by rw [BitVec.toNat_xor, ← e2]
  rw [e3, BitVec.xor_allOnes, BitVec.toNat_not, ← e2]
  omega

theorem i64_xor_zero (a : Int) (h0 : 0 ≤ a) (h1 : a < 9223372036854775808) : bits .xor .i64 a 0 = a := by
  have e : BitVec.ofInt 64 0 = 0#64 := rfl
  show IntKind.i64.wrap ((BitVec.ofInt 64 a ^^^ BitVec.ofInt 64 0).toNat : Int) = a
  rw [e, BitVec.xor_zero, BitVec.toNat_ofInt, Int.toNat_of_nonneg (by omega)]
  rw [IntKind.wrap_i64]
  omega

theorem i64_xor_ones (a : Int) (h0 : 0 ≤ a) (h1 : a < 9223372036854775808) : bits .xor .i64 a (-1) = -a - 1 := by
  have e : BitVec.ofInt 64 (-1) = BitVec.allOnes 64 := by decide
  show IntKind.i64.wrap ((BitVec.ofInt 64 a ^^^ BitVec.ofInt 64 (-1)).toNat : Int) = -a - 1
  rw [e, BitVec.xor_allOnes, BitVec.toNat_not, BitVec.toNat_ofInt]
  rw [IntKind.wrap_i64]
  omega

theorem and_one (u : Int) (h0 : 0 ≤ u) (h1 : u < 18446744073709551616) : bits .and .u64 u 1 = u % 2 := by
  rw [u64_and u 1 h0 h1 (by decide) (by decide)]
  have e : (1 : Int).toNat = 1 := rfl
  rw [e, nat_mask1]
  omega
end Go.Gh
/-
  Slices of bytes: their elements.
-/
namespace Go.Proofs.YtbifhmbfmoeofaaDoor.Bits
open Go.RowKit Go.Gh Go.WideShapes
set_option linter.unusedVariables false

theorem infoU8 : (Tryd.prog.info? 5).map (fun i => (i.zero, i.size, i.bytes)) = some (some (.int .u8 0), 1, 1) := by kernel_rfl

theorem elU8 : Elem Tryd.prog 23 5 1 1 := elem_of Tryd.underlying23 infoU8 rfl (by decide)
theorem ints_one (k : IntKind) (l : List Int) : ∀ u ∈ l.map (Value.int k), u.oneCell' = true := by
  intro u hu; simp at hu; obtain ⟨z, _, rfl⟩ := hu; rfl
end Go.Proofs.YtbifhmbfmoeofaaDoor.Bits
/-
  The walks of the references on bits as noughts and ones.
-/
namespace Go.Proofs.YtbifhmbfmoeofaaDoor.Bits
open Go.RowKit Go.Gh Go.WideShapes
set_option linter.unusedVariables false

/-- Bits as a text of noughts and ones. -/
def sbits (s : List Bool) : ByteArray := ⟨(s.map fun b => if b then (49 : UInt8) else 48).toArray⟩
theorem sbits_size (s : List Bool) : (sbits s).size = s.length := by show (sbits s).data.size = _; simp [sbits]
theorem sbits_cons (b : Bool) (s : List Bool) : (⟨[if b then (49 : UInt8) else 48].toArray⟩ : ByteArray) ++ sbits s = sbits (b :: s) := by
  unfold sbits; rw [ByteArray.mk_append_mk]; rfl
theorem sbits_append (s t : List Bool) : sbits s ++ sbits t = sbits (s ++ t) := by
  unfold sbits; rw [ByteArray.mk_append_mk]; simp

theorem enc_bit (U : Int) (v : Int) (k : Nat) (hU : U = v / 2 ^ k) : Utf8.encode (48 + U % 2) = ⟨[if bitI v k then (49 : UInt8) else 48].toArray⟩ := by
  subst hU
  unfold bitI
  rcases (show (v / 2 ^ k) % 2 = 0 ∨ (v / 2 ^ k) % 2 = 1 by omega) with h | h
  · rw [h]; rfl
  · rw [h]; rfl
theorem enc_size (U : Int) : (Utf8.encode (48 + U % 2)).size ≤ 1 := by
  rcases (show U % 2 = 0 ∨ U % 2 = 1 by omega) with h | h
  · rw [h]; decide
  · rw [h]; decide

theorem signs_any (v : Int) (n : Nat) (h0 : 0 ≤ v) (h1 : v < 18446744073709551616) (hn : n ≤ 100000) (w : World) :
    Calls Tryd.prog 38 #[.int .u64 v, .int .i64 n] w fun e w' => e = .returned (.string (sbits (signs v n))) ∧ w = w' := by
  go_enter Tryd.func38, Tryd.ntmps38
  go_wp2_with fail
  go_loop [0, 5, 7] (fun x s i => ∃ (k : Nat) (U : Int) (S : ByteArray), k ≤ n ∧ i = .int .i64 k ∧ x = .int .u64 U ∧ s = .string S ∧ 0 ≤ U ∧ U < 18446744073709551616 ∧ Hid (U = v / 2 ^ k) ∧ Hid (S = sbits (signs v k)) ∧ S.size ≤ k) (fun _ _ i => n - (intOf i).toNat)
  case atStart => exact ⟨0, v, _, by omega, rfl, rfl, rfl, h0, h1, by show _ = _; simp, rfl, by decide⟩
  case round =>
    obtain ⟨k, U, S, hk, rfl, rfl, rfl, hU0, hU1, hU, hS, hsz⟩ := hrel
    by_cases hlt : k < n
    · have hp : 0 ≤ U / 2 := by omega
      have he := enc_size U
      have hsum : (Utf8.encode (48 + U % 2)).size + S.size ≤ 9223372036854775807 := by omega
      go_wp2
      go_round
      case rel =>
        refine ⟨k + 1, _, _, by omega, by go_num, rfl, rfl, hp, by omega, ?_, ?_, ?_⟩
        · show _ = _
          rw [hU.out, Int.ediv_ediv_of_nonneg (Int.le_of_lt (two_pow_pos k)), Int.pow_succ]
        · show _ = _
          rw [enc_bit U v k hU.out, hS.out, sbits_cons]
          rfl
        · rw [ByteArray.size_append]; omega
      case measure => simp [intOf]; omega
    · obtain rfl : k = n := by omega
      go_wp2
      go_ret
      exact ⟨ret_str hS.out, rfl⟩
theorem sbits_get (s : List Bool) (k : Nat) (h : k < (sbits s).size) (h' : k < s.length) : ((sbits s)[k]'h).toNat = if s[k] then 49 else 48 := by
  have e : (sbits s)[k]'h = if s[k] then (49 : UInt8) else 48 := by
    show (sbits s).data[k]'h = _
    simp [sbits]
  rw [e]
  split <;> rfl
theorem take_snoc' {α : Type} (s : List α) (k : Nat) (h : k < s.length) : s.take (k + 1) = s.take k ++ [s[k]] := List.take_succ_eq_append_getElem h
theorem val_take (s : List Bool) (k : Nat) (h : k < s.length) (h64 : s.length ≤ 64) : 0 ≤ valF 0 (s.take k) ∧ valF 0 (s.take k) < 9223372036854775808 := by
  have := valF_bd (s.take k)
  have e : (2 : Int) ^ (s.take k).length ≤ 9223372036854775808 := by
    rw [two_pow_cast]
    have h1 : 2 ^ (s.take k).length ≤ 2 ^ 63 := Nat.pow_le_pow_right (by decide) (by simp; omega)
    have h2 : 2 ^ 63 = 9223372036854775808 := by decide
    omega
  omega
theorem valueof_any (s : List Bool) (hn : s.length ≤ 64) (w : World) :
    Calls Tryd.prog 37 #[.string (sbits s)] w fun e w' => e = .returned (.int .u64 (valF 0 s)) ∧ w = w' := by
  go_enter Tryd.func37, Tryd.ntmps37
  go_wp2_with fail
  go_loop [3, 7] (fun x i => ∃ (k : Nat), k ≤ s.length ∧ i = .int .i64 k ∧ x = .int .u64 (valF 0 (s.take k))) (fun _ i => s.length - (intOf i).toNat)
  case atStart => exact ⟨0, by omega, rfl, rfl⟩
  case round =>
    obtain ⟨k, hk, rfl, rfl⟩ := hrel
    by_cases hlt : k < s.length
    · have hk2 : k < (sbits s).size := by rw [sbits_size]; exact hlt
      have hsz : (sbits s).size ≤ 64 := by rw [sbits_size]; exact hn
      have hg := sbits_get s k hk2 hlt
      have hv := val_take s k hlt hn
      have HE : Hid (valF 0 (s.take (k + 1)) = 2 * valF 0 (s.take k) + b2i s[k]) := by show _ = _; rw [take_snoc' s k hlt, valF_snoc]
      generalize valF 0 (s.take k) = V at *
      obtain ⟨hv0, hv1⟩ := hv
      by_cases hb : s[k] = true
      · have t1 : ((((sbits s)[k]'hk2).toNat : Int) == 49) = true := by rw [hg, if_pos hb]; rfl
        clear hg
        go_wp2
        go_round
        case rel => exact ⟨k + 1, by omega, by go_num, by rw [HE.out, hb]; show _ = Value.int .u64 (2 * V + 1); rw [Int.mul_comm]⟩
        case measure => simp [intOf]; omega
      · have t1 : ((((sbits s)[k]'hk2).toNat : Int) == 49) = false := by rw [hg, if_neg hb]; rfl
        have hb : s[k] = false := by simpa using hb
        clear hg
        go_wp2
        go_round
        case rel => exact ⟨k + 1, by omega, by go_num, by rw [HE.out, hb]; show _ = Value.int .u64 (2 * V + 0); rw [Int.add_zero, Int.mul_comm]⟩
        case measure => simp [intOf]; omega
    · have hz : s.length = (sbits s).size := (sbits_size s).symm
      obtain rfl : k = s.length := by omega
      have hge : (sbits s).size ≤ s.length := by omega
      clear hz
      go_wp2
      go_ret
      exact ⟨rfl, rfl⟩
end Go.Proofs.YtbifhmbfmoeofaaDoor.Bits
/-
  Words shared by the walks, part two: appends beside a struct of the call's own.
-/
namespace Go.Gh
open Go.RowKit
set_option linter.unusedVariables false

theorem below_own {w0 W w' : World} {B Bo : Nat} {e : TypeId} {size n : Nat} {v : Value} {xs : List Value} (hown : W.ownsRow Bo e size v n xs) (hbel : Below B w0 W) (hBo : B ≤ Bo) (hsz : B ≤ W.heap.size) (hg : W.grownBy w' v.ownBlock) : Below B w0 w' :=
  Below.grown hbel hg hsz (fun k hk => Nat.le_trans hBo (hown.lt k hk).1)

/-- A cell of another block stays, behind what grows an owned row. -/
theorem grown_cell {W w' : World} {Bo : Nat} {e : TypeId} {size n : Nat} {v : Value} {xs : List Value} (hown : W.ownsRow Bo e size v n xs) (hg : W.grownBy w' v.ownBlock) {b o : Nat} {u : Value} (hb : b < Bo) (hc : W.cell? ⟨b, o, none⟩ = some u) : w'.cell? ⟨b, o, none⟩ = some u := by
  refine hg.cell hc ?_
  intro h
  have := (hown.lt b (h.symm)).1
  omega
theorem grown_block {W w' : World} {Bo : Nat} {e : TypeId} {size n : Nat} {v : Value} {xs : List Value} (hown : W.ownsRow Bo e size v n xs) (hg : W.grownBy w' v.ownBlock) {b : Nat} {o : Obj} (hb : b < Bo) (hc : W.heap[b]? = some o) : w'.heap[b]? = some o := by
  rw [hg.block b (Array.getElem?_eq_some_iff.1 hc).1 ?_]
  · exact hc
  · intro h
    have := (hown.lt b (h.symm)).1
    omega

/-- append of one fresh element to an owned row, as one step of a region that draws. -/
theorem step_app1 {P : Program} {ops : Array Oper} {o : Oper} {a : Act} {K : Act → World → Prop} {Q : Exit → Act → World → Prop} {E : Prop} {w0 W : World} {B Bo : Nat} {t e : TypeId} {size bytes n : Nat} {xs : List Value} {v : Value} (cells : List Value)
    (el : Elem P t e size bytes) (hgd : o.guard = none) (s x : Operand) (ho : o.op = .call { callee := .builtin .append, args := #[s, x], argTypes := #[t, t] })
    (hown : W.ownsRow Bo e size v n xs) (hbel : Below B w0 W) (hBo : B ≤ Bo) (hB : Bo ≤ W.heap.size) (hs : a.eval s = v) (hx : a.eval x = .slice (some ⟨W.heap.size, 0, none⟩) 1 1)
    (hl : cells.length = size) (h1 : ∀ u ∈ cells, u.oneCell' = true) (h47 : (n + 1) * bytes ≤ 140737488355328) (h63 : n + 1 ≤ 9223372036854775807)
    (h : ∀ g cap w', w'.ownsRow Bo e size (.slice (some ⟨g, 0, none⟩) (n + 1) cap) (n + 1) (xs ++ cells) → Below B w0 w' → W.grownBy w' v.ownBlock → K (a.put o.dst (.slice (some ⟨g, 0, none⟩) (n + 1) cap)) w') :
    if Region.wanted o (yielded ops a.tmps) = true then Oper.wp P o a (W.alloc (.cells cells.toArray e)) K Q else E := by
  obtain ⟨i, z, h2, h3, h4, h5, h6⟩ := el.info
  refine step_append_lies _ hgd s x t ho Bo e i z size bytes el.und h2 h3 h4 h5 h6 el.pos v n xs hs (hown.alloc _) ⟨W.heap.size, 0, none⟩ 1 1 cells hx (by rw [Nat.one_mul]; exact hl) (fresh_cells W cells e) h1 (by decide) (by unfold maxLen; exact h63) h47 (by simp; omega) _ rfl ?_
  intro g cap w' hown' hg _ _
  have hg' := grown_trans (World.grownBy_alloc W (Obj.cells cells.toArray e) v.ownBlock) hg
  exact h g cap w' hown' (below_own hown hbel hBo (by omega) hg') hg'
theorem row_cell {w : World} {b : Nat} {cs : Array Value} {e : TypeId} (i : Nat) (u : Value) (h : w.heap[b]? = some (.cells cs e (0, 0))) (hi : cs[i]? = some u) : w.cell? ⟨b, i, none⟩ = some u ∧ w.frozen? ⟨b, i, none⟩ = false := by
  constructor
  · simp [World.cell?, h, hi]
  · simp [World.frozen?, h]
theorem row_setCell {w : World} {b : Nat} {cs : Array Value} {e : TypeId} (i : Nat) (u : Value) (h : w.heap[b]? = some (.cells cs e (0, 0))) : (w.setCell ⟨b, i, none⟩ u).heap[b]? = some (.cells (cs.setIfInBounds i u) e (0, 0)) := by
  simp [World.setCell, h, Array.getElem?_modify]
theorem row_setCell_other {w : World} {b b' i : Nat} {o : Obj} (u : Value) (h : w.heap[b]? = some o) (hne : b ≠ b') : (w.setCell ⟨b', i, none⟩ u).heap[b]? = some o := by
  rw [Below.heap_setCell w ⟨b', i, none⟩ u b hne]; exact h
theorem two_first (w : World) (o o' : Obj) : ((w.alloc o).alloc o').heap[w.heap.size]? = some o := by
  rw [Below.heap_alloc (w.alloc o) o' w.heap.size (by simp)]
  exact heap_alloc_new w o
theorem two_second (w : World) (o o' : Obj) : ((w.alloc o).alloc o').heap[w.heap.size + 1]? = some o' := by
  have := heap_alloc_new (w.alloc o) o'
  rwa [World.size_alloc] at this

theorem own_block_ne {w : World} {B : Nat} {e e' : TypeId} {size n b : Nat} {v : Value} {xs : List Value} {cs : Array Value} {fr : Nat × Nat} (h : w.ownsRow B e size v n xs) (hb : w.heap[b]? = some (.cells cs e' fr)) (hne : e ≠ e') : v.ownBlock ≠ some b := by
  rcases h.2 with ⟨rfl, _⟩ | ⟨g, cap, cur, rfl, _, hg, _⟩
  · simp [Value.ownBlock]
  · intro h'
    simp [Value.ownBlock] at h'
    subst h'
    rw [hb] at hg
    simp at hg
    exact hne hg.2.1.symm
theorem grown_block2 {W w' : World} {row : Option Nat} (hg : W.grownBy w' row) {b : Nat} {o : Obj} (hne : row ≠ some b) (hc : W.heap[b]? = some o) : w'.heap[b]? = some o := by
  rw [hg.block b (Array.getElem?_eq_some_iff.1 hc).1 (fun h => hne h.symm)]
  exact hc

theorem grown_setCell {w w' : World} {b : Nat} (h : w.grownBy w' (some b)) (i : Nat) (u : Value) : w.grownBy (w'.setCell ⟨b, i, none⟩ u) (some b) :=
  ⟨h.os, h.tape, h.output, by simpa using h.size, fun k hk hne => by
    rw [Below.heap_setCell w' ⟨b, i, none⟩ u k (fun e => hne (by rw [e]))]
    exact h.block k hk hne⟩
theorem grown_drewN {w w' : World} {r : Option Nat} (h : w.grownBy w' r) (n : Nat) : w.grownBy (w'.drewN n) r := ⟨h.os, h.tape, h.output, h.size, h.block⟩
theorem below_of_grown {w w' : World} {r : Option Nat} {B : Nat} (h : w.grownBy w' r) (hB : B ≤ w.heap.size) (hr : ∀ k, r = some k → B ≤ k) : Below B w w' := Below.grown (Below.refl _ _) h hB hr

/-- 'append1' where the new cell's block is spelled as a number. -/
theorem append1p {P : Program} {ops : Array Oper} {rest : List Oper} {o : Oper} {a : Act} {Q : Exit → Act → World → Prop} {w0 W : World} {B p : Nat} {t e : TypeId} {size bytes n : Nat} {xs : List Value} {v : Value} (cells : List Value)
    (el : Elem P t e size bytes) (hgd : o.guard = none) (s x : Operand) (ho : o.op = .call { callee := .builtin .append, args := #[s, x], argTypes := #[t, t] })
    (hown : W.ownsRow B e size v n xs) (hbel : Below B w0 W) (hB : B ≤ W.heap.size) (hs : a.eval s = v) (hx : a.eval x = .slice (some ⟨p, 0, none⟩) 1 1) (hp : p = W.heap.size)
    (hl : cells.length = size) (h1 : ∀ u ∈ cells, u.oneCell' = true) (h47 : (n + 1) * bytes ≤ 140737488355328) (h63 : n + 1 ≤ 9223372036854775807)
    (h : ∀ v' w', w'.ownsRow B e size v' (n + 1) (xs ++ cells) → Below B w0 w' → W.grownBy w' v.ownBlock → wpList P ops Q rest (a.put o.dst v') w') :
    wpList P ops Q (o :: rest) a (W.alloc (.cells cells.toArray e)) := by
  subst hp
  exact append1 cells el hgd s x ho hown hbel hB hs hx hl h1 h47 h63 h
end Go.Gh
