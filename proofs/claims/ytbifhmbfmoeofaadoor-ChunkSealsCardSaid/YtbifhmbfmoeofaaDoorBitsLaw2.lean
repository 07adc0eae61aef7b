/-
  Plain facts about bits in a row: numbers as bits, bits as bytes.
-/
namespace Go.Gh

def b2i (b : Bool) : Int := if b then 1 else 0
def bitI (v : Int) (i : Nat) : Bool := v / 2 ^ i % 2 == 1
def signs (v : Int) : Nat → List Bool
  | 0 => []
  | k + 1 => bitI v k :: signs v k
def valF (acc : Int) : List Bool → Int
  | [] => acc
  | b :: s => valF (2 * acc + b2i b) s
def bitAt (l : List Int) (i : Nat) : Bool := bitI (l.getD (i / 8) 0) (7 - i % 8)
def unpack (l : List Int) (N : Nat) : List Bool := (List.range N).map (bitAt l)
def eight (f : Nat → Bool) : List Bool := (List.range 8).map f
def byteAt (s : List Bool) (j : Nat) : Int := valF 0 (eight fun i => s.getD (8 * j + i) false)
def pack (s : List Bool) : List Int := (List.range ((s.length + 7) / 8)).map (byteAt s)
def Bytes (l : List Int) : Prop := ∀ z ∈ l, 0 ≤ z ∧ z < 256
def okB (l : List Int) (N : Int) : Prop := 0 ≤ N ∧ N ≤ 8 * l.length ∧ 8 * l.length - N ≤ 7 ∧ ∀ i : Nat, N ≤ i → i < 8 * l.length → bitAt l i = false

theorem b2i_bd (b : Bool) : 0 ≤ b2i b ∧ b2i b ≤ 1 := by cases b <;> simp [b2i]
theorem two_pow_cast (n : Nat) : (2 : Int) ^ n = ((2 ^ n : Nat) : Int) := by rw [Int.natCast_pow]; rfl
theorem two_pow_pos (n : Nat) : (0 : Int) < 2 ^ n := Int.pow_pos (by omega)

theorem valF_acc (s : List Bool) : ∀ acc, valF acc s = acc * 2 ^ s.length + valF 0 s := by
  induction s with
  | nil => intro acc; simp [valF]
  | cons b s ih =>
    intro acc
    simp only [valF, List.length_cons]
    rw [ih (2 * acc + b2i b), ih (2 * 0 + b2i b), Int.pow_succ, Int.add_mul, Int.add_mul, Int.mul_comm 2 acc, Int.mul_assoc, Int.mul_comm 2 (2 ^ s.length)]
    omega
theorem valF_append (s t : List Bool) : ∀ acc, valF acc (s ++ t) = valF (valF acc s) t := by
  induction s with
  | nil => intro acc; rfl
  | cons b s ih => intro acc; exact ih _
theorem valF_snoc (acc : Int) (s : List Bool) (b : Bool) : valF acc (s ++ [b]) = 2 * valF acc s + b2i b := by
  rw [valF_append]; rfl
theorem valF_bd (s : List Bool) : 0 ≤ valF 0 s ∧ valF 0 s < 2 ^ s.length := by
  induction s with
  | nil => simp [valF]
  | cons b s ih =>
    simp only [valF, List.length_cons]
    rw [valF_acc, Int.pow_succ]
    have := b2i_bd b
    have h1 : (0 : Int) < 2 ^ s.length := two_pow_pos _
    have h2 : (2 * 0 + b2i b) * 2 ^ s.length = if b then 2 ^ s.length else 0 := by cases b <;> simp [b2i]
    rw [h2]
    split <;> omega

theorem bitI_zero (i : Nat) : bitI 0 i = false := by simp [bitI]
theorem bitI_double_zero (v : Int) (b : Bool) : bitI (2 * v + b2i b) 0 = b := by
  cases b <;> simp [bitI, b2i] <;> omega
theorem bitI_double_succ (v : Int) (b : Bool) (k : Nat) : bitI (2 * v + b2i b) (k + 1) = bitI v k := by
  have h : (2 * v + b2i b) / 2 ^ (k + 1) = v / 2 ^ k := by
    rw [Int.pow_succ, Int.mul_comm (2 ^ k) 2, ← Int.ediv_ediv_of_nonneg (by omega)]
    congr 1
    have := b2i_bd b
    omega
  unfold bitI
  rw [h]
theorem bitI_half (v : Int) (k : Nat) : bitI (v / 2) k = bitI v (k + 1) := by
  unfold bitI
  rw [Int.ediv_ediv_of_nonneg (by omega), Int.pow_succ, Int.mul_comm (2 ^ k) 2]
theorem bitI_mod (v : Int) (n k : Nat) (h : k < n) : bitI (v % 2 ^ n) k = bitI v k := by
  unfold bitI
  congr 1
  rw [show n = k + (n - k) from by omega, Int.pow_add]
  have hp := two_pow_pos k
  generalize hq : (2 : Int) ^ k = p at *
  obtain ⟨m, hm⟩ : ∃ m, n - k = m + 1 := ⟨n - k - 1, by omega⟩
  rw [hm, Int.pow_succ]
  generalize (2 : Int) ^ m = r
  have e1 := Int.emod_def v (p * (r * 2))
  rw [e1]
  generalize v / (p * (r * 2)) = q
  have : v - p * (r * 2) * q = v + p * (-(r * q) * 2) := by
    rw [Int.mul_assoc p, Int.sub_eq_add_neg, ← Int.mul_neg]
    congr 2
    rw [Int.mul_right_comm, Int.neg_mul]
  rw [this, Int.add_mul_ediv_left _ _ (by omega)]
  omega

/-- Bit k of what bits come to. -/
theorem bit_val (s : List Bool) : ∀ k, k < s.length → bitI (valF 0 s) (s.length - 1 - k) = s.getD k false := by
  have key : ∀ (n : Nat) (s : List Bool), s.length = n → ∀ k, k < s.length → bitI (valF 0 s) (s.length - 1 - k) = s.getD k false := by
    intro n
    induction n with
    | zero => intro s hs k hk; omega
    | succ n ih =>
      intro s hs k hk
      obtain ⟨t, b, rfl⟩ : ∃ t b, s = t ++ [b] := ⟨s.dropLast, s.getLast (by intro h; simp [h] at hs), (List.dropLast_concat_getLast _).symm⟩
      simp at hs hk
      rw [valF_snoc]
      by_cases hkt : k = t.length
      · subst hkt
        simp [bitI_double_zero]
      · have : (t ++ [b]).length - 1 - k = (t.length - 1 - k) + 1 := by simp; omega
        rw [this, bitI_double_succ, ih t hs k (by omega)]
        simp [List.getD_eq_getElem?_getD, List.getElem?_append_left (show k < t.length by omega)]
  exact key s.length s rfl

theorem val_signs (v : Int) (n : Nat) : valF 0 (signs v n) = v % 2 ^ n := by
  have key : ∀ n acc, valF acc (signs v n) = acc * 2 ^ n + v % 2 ^ n := by
    intro n
    induction n with
    | zero => intro acc; simp [signs, valF]
    | succ n ih =>
      intro acc
      simp only [signs, valF]
      rw [ih, Int.pow_succ]
      have hp := two_pow_pos n
      have e : v % (2 ^ n * 2) = b2i (bitI v n) * 2 ^ n + v % 2 ^ n := by
        unfold bitI
        have h1 := Int.emod_def v (2 ^ n * 2)
        have h2 := Int.emod_def v (2 ^ n)
        have h3 : v / (2 ^ n * 2) = v / 2 ^ n / 2 := (Int.ediv_ediv_of_nonneg (by omega)).symm
        rw [h1, h2, h3]
        generalize v / 2 ^ n = q
        have h4 : q = 2 * (q / 2) + q % 2 := by omega
        have h5 : b2i (q % 2 == 1) = q % 2 := by
          rcases (show q % 2 = 0 ∨ q % 2 = 1 by omega) with h | h <;> simp [h, b2i]
        rw [h5]
        generalize hr : q % 2 = r at *
        generalize q / 2 = u at *
        rw [h4, Int.mul_add, Int.mul_comm r, Int.mul_assoc]
        omega
      rw [e, Int.add_mul, Int.mul_comm 2 acc, Int.mul_assoc, Int.mul_comm 2 (2 ^ n)]
      omega
  rw [key n 0]
  omega
theorem signs_len (v : Int) (n : Nat) : (signs v n).length = n := by
  induction n with
  | zero => rfl
  | succ n ih => simp [signs, ih]
theorem signs_get (v : Int) (n k : Nat) (h : k < n) : (signs v n).getD k false = bitI v (n - 1 - k) := by
  induction n generalizing k with
  | zero => omega
  | succ n ih =>
    cases k with
    | zero => simp [signs]
    | succ k =>
      simp only [signs, List.getD_cons_succ]
      rw [ih k (by omega)]
      congr 1
      omega
theorem signs_val (s : List Bool) : signs (valF 0 s) s.length = s := by
  apply List.ext_getElem
  · simp [signs_len]
  · intro k h1 h2
    have := signs_get (valF 0 s) s.length k h2
    rw [bit_val s k h2] at this
    rw [List.getD_eq_getElem?_getD, List.getD_eq_getElem?_getD, List.getElem?_eq_getElem h1, List.getElem?_eq_getElem h2] at this
    simpa using this
theorem signs_half (v : Int) (n : Nat) : signs v (n + 1) = signs (v / 2) n ++ [bitI v 0] := by
  induction n with
  | zero => rfl
  | succ n ih =>
    rw [signs, ih]
    show _ = (bitI (v / 2) n :: signs (v / 2) n) ++ [bitI v 0]
    rw [bitI_half]
    rfl
theorem signs_mod (v : Int) (n m : Nat) (h : n ≤ m) : signs (v % 2 ^ m) n = signs v n := by
  induction n with
  | zero => rfl
  | succ n ih => simp only [signs]; rw [bitI_mod v m n (by omega), ih (by omega)]

theorem eight_len (f : Nat → Bool) : (eight f).length = 8 := by simp [eight]
theorem eight_get (f : Nat → Bool) (i : Nat) (h : i < 8) : (eight f).getD i false = f i := by simp [eight, h]
theorem byte_signs (z : Int) (h0 : 0 ≤ z) (h1 : z < 256) : valF 0 (eight fun i => bitI z (7 - i)) = z := by
  have : (eight fun i => bitI z (7 - i)) = signs z 8 := by
    simp [eight, List.range_succ, signs]
  rw [this, val_signs]
  have : (2 : Int) ^ 8 = 256 := by decide
  omega
theorem byteAt_bd (s : List Bool) (j : Nat) : 0 ≤ byteAt s j ∧ byteAt s j < 256 := by
  have := valF_bd (eight fun i => s.getD (8 * j + i) false)
  rw [eight_len] at this
  have e : (2 : Int) ^ 8 = 256 := by decide
  unfold byteAt
  omega
theorem pack_bytes (s : List Bool) : Bytes (pack s) := by
  intro z hz
  simp [pack] at hz
  obtain ⟨j, _, rfl⟩ := hz
  exact byteAt_bd s j
theorem pack_len (s : List Bool) : (pack s).length = (s.length + 7) / 8 := by simp [pack]
theorem pack_get (s : List Bool) (j : Nat) (h : j < (s.length + 7) / 8) : (pack s).getD j 0 = byteAt s j := by simp [pack, h]
theorem bit_byteAt (s : List Bool) (j i : Nat) (h : i < 8) : bitI (byteAt s j) (7 - i) = s.getD (8 * j + i) false := by
  unfold byteAt
  have := bit_val (eight fun i => s.getD (8 * j + i) false) i (by rw [eight_len]; exact h)
  rw [eight_len, eight_get _ _ h] at this
  exact this
theorem unpack_len (l : List Int) (N : Nat) : (unpack l N).length = N := by simp [unpack]
theorem unpack_get (l : List Int) (N i : Nat) (h : i < N) : (unpack l N).getD i false = bitAt l i := by simp [unpack, h]
theorem bitAt_pack (s : List Bool) (i : Nat) (h : i < s.length) : bitAt (pack s) i = s.getD i false := by
  unfold bitAt
  rw [pack_get s (i / 8) (by omega), bit_byteAt s (i / 8) (i % 8) (by omega)]
  congr 1
  omega
theorem unpack_pack (s : List Bool) : unpack (pack s) s.length = s := by
  apply List.ext_getElem
  · simp [unpack]
  · intro i h1 h2
    simp only [unpack, List.getElem_map, List.getElem_range]
    rw [bitAt_pack s i h2, List.getD_eq_getElem?_getD, List.getElem?_eq_getElem h2]
    rfl
theorem pack_unpack (l : List Int) (N : Nat) (hl : Bytes l) (h : okB l N) : pack (unpack l N) = l := by
  obtain ⟨h0, h1, h2, h3⟩ := h
  apply List.ext_getElem
  · rw [pack_len, unpack_len]; omega
  · intro j hj1 hj2
    have hz := hl l[j] (List.getElem_mem _)
    have hlen : (pack (unpack l N)).length = (N + 7) / 8 := by rw [pack_len, unpack_len]
    have e1 : (pack (unpack l N))[j] = byteAt (unpack l N) j := by
      have := pack_get (unpack l N) j (by rw [unpack_len]; omega)
      rw [List.getD_eq_getElem?_getD, List.getElem?_eq_getElem hj1] at this
      exact this
    rw [e1, ← byte_signs l[j] hz.1 hz.2]
    unfold byteAt
    congr 1
    unfold eight
    apply List.map_congr_left
    intro i hi
    have hi : i < 8 := by simpa using hi
    have e2 : bitAt l (8 * j + i) = bitI l[j] (7 - i) := by
      unfold bitAt
      rw [show (8 * j + i) / 8 = j from by omega, show (8 * j + i) % 8 = i from by omega, List.getD_eq_getElem?_getD, List.getElem?_eq_getElem hj2]
      rfl
    by_cases hN : 8 * j + i < N
    · rw [unpack_get l N _ hN, e2]
    · rw [← e2, h3 (8 * j + i) (by omega) (by omega), List.getD_eq_getElem?_getD, List.getElem?_eq_none (by rw [unpack_len]; omega)]
      rfl
theorem okB_pack (s : List Bool) : okB (pack s) s.length := by
  have hl := pack_len s
  refine ⟨by omega, by omega, by omega, fun i h1 h2 => ?_⟩
  unfold bitAt
  rw [pack_get s (i / 8) (by omega), bit_byteAt s (i / 8) (i % 8) (by omega), List.getD_eq_getElem?_getD, List.getElem?_eq_none (by omega)]
  rfl

/-- One bit more. -/
theorem val_set (s : List Bool) (p : Nat) (b : Bool) (hp : p < s.length) (hf : s.getD p false = false) : valF 0 (s.set p b) = valF 0 s + b2i b * 2 ^ (s.length - 1 - p) := by
  have e : s = s.take p ++ false :: s.drop (p + 1) := by
    rw [List.getD_eq_getElem?_getD, List.getElem?_eq_getElem hp] at hf
    have hf : s[p] = false := by simpa using hf
    rw [← hf, ← List.drop_eq_getElem_cons hp, List.take_append_drop]
  have e2 : s.set p b = s.take p ++ b :: s.drop (p + 1) := by
    rw [List.set_eq_take_append_cons_drop, if_pos hp]
  have hd : (s.drop (p + 1)).length = s.length - 1 - p := by simp; omega
  have e3 : valF 0 s = valF (valF 0 (s.take p)) (false :: s.drop (p + 1)) := by rw [← valF_append, ← e]
  rw [e2, e3, valF_append]
  simp only [valF]
  rw [valF_acc (s.drop (p + 1)) (2 * valF 0 (s.take p) + b2i b), valF_acc (s.drop (p + 1)) (2 * valF 0 (s.take p) + b2i false), hd, Int.add_mul, Int.add_mul]
  simp [b2i]
  omega
theorem byteAt_snoc (s : List Bool) (b : Bool) : byteAt (s ++ [b]) (s.length / 8) = byteAt s (s.length / 8) + b2i b * 2 ^ (7 - s.length % 8) := by
  unfold byteAt
  have e : (eight fun i => (s ++ [b]).getD (8 * (s.length / 8) + i) false) = (eight fun i => s.getD (8 * (s.length / 8) + i) false).set (s.length % 8) b := by
    apply List.ext_getElem
    · simp [eight]
    · intro i h1 h2
      have hi : i < 8 := by simpa [eight] using h1
      rw [List.getElem_set]
      simp only [eight, List.getElem_map, List.getElem_range]
      by_cases h : s.length % 8 = i
      · rw [if_pos h, show 8 * (s.length / 8) + i = s.length from by omega]
        simp
      · rw [if_neg h]
        by_cases h' : 8 * (s.length / 8) + i < s.length
        · simp [List.getD_eq_getElem?_getD, List.getElem?_append_left h']
        · rw [List.getD_eq_getElem?_getD, List.getD_eq_getElem?_getD, List.getElem?_eq_none (by simp; omega), List.getElem?_eq_none (by omega)]
  have hp : s.length % 8 < 8 := Nat.mod_lt _ (by decide)
  rw [e, val_set _ _ _ (by rw [eight_len]; exact hp) (by rw [eight_get _ _ hp, show 8 * (s.length / 8) + s.length % 8 = s.length from by omega]; simp), eight_len]
theorem byteAt_old (s : List Bool) (b : Bool) (j : Nat) (h : j ≠ s.length / 8) : byteAt (s ++ [b]) j = byteAt s j := by
  unfold byteAt
  congr 1
  unfold eight
  apply List.map_congr_left
  intro i hi
  have hi : i < 8 := by simpa using hi
  by_cases h' : 8 * j + i < s.length
  · simp [List.getD_eq_getElem?_getD, List.getElem?_append_left h']
  · rw [List.getD_eq_getElem?_getD, List.getD_eq_getElem?_getD, List.getElem?_eq_none (by simp; omega), List.getElem?_eq_none (by omega)]
theorem byteAt_end (s : List Bool) (h : s.length % 8 = 0) : byteAt s (s.length / 8) = 0 := by
  unfold byteAt
  have : (eight fun i => s.getD (8 * (s.length / 8) + i) false) = eight fun _ => false := by
    unfold eight
    apply List.map_congr_left
    intro i hi
    rw [List.getD_eq_getElem?_getD, List.getElem?_eq_none (by omega)]
    rfl
  rw [this]
  decide
/-- The bytes with room for one bit more. -/
def room (s : List Bool) : List Int := if s.length % 8 = 0 then pack s ++ [0] else pack s
theorem room_len (s : List Bool) : (room s).length = s.length / 8 + 1 := by
  unfold room
  split <;> simp [pack_len] <;> omega
theorem room_get (s : List Bool) : (room s).getD (s.length / 8) 0 = byteAt s (s.length / 8) := by
  unfold room
  split
  · rename_i h
    rw [byteAt_end s h, List.getD_eq_getElem?_getD, List.getElem?_append_right (by rw [pack_len]; omega), pack_len, show s.length / 8 - (s.length + 7) / 8 = 0 from by omega]
    rfl
  · exact pack_get s _ (by omega)
theorem pack_snoc (s : List Bool) (b : Bool) : pack (s ++ [b]) = (room s).set (s.length / 8) (byteAt s (s.length / 8) + b2i b * 2 ^ (7 - s.length % 8)) := by
  apply List.ext_getElem
  · simp [pack_len, room_len]; omega
  · intro j h1 h2
    have hj : j < s.length / 8 + 1 := by simpa [room_len] using h2
    have e1 : (pack (s ++ [b]))[j] = byteAt (s ++ [b]) j := by
      have := pack_get (s ++ [b]) j (by simp; omega)
      rw [List.getD_eq_getElem?_getD, List.getElem?_eq_getElem h1] at this
      exact this
    rw [e1, List.getElem_set]
    by_cases h : s.length / 8 = j
    · rw [if_pos h, ← h, byteAt_snoc]
    · rw [if_neg h, byteAt_old s b j (Ne.symm h)]
      have hj' : j < (pack s).length := by rw [pack_len]; omega
      have e2 := pack_get s j (by rw [pack_len] at hj'; exact hj')
      rw [List.getD_eq_getElem?_getD, List.getElem?_eq_getElem hj'] at e2
      have e3 : (pack s)[j] = byteAt s j := by simpa using e2
      rw [← e3]
      unfold room
      split
      · rw [List.getElem_append_left hj']
      · rfl
end Go.Gh
