/-
  Times read back from bits, by the reader and by the reference: as plain functions; on what was packed both give the times back.
-/
import Derived.WalkKit
import Derived.Test.YtmbmognhbljliaaDoorDeltaLaw
namespace Go.Gh
open Go.RowKit
set_option linter.unusedVariables false

def tk (n : Nat) (r : List Bool) (sh : Bool) : Int × List Bool × Bool := if n ≤ r.length then (valF 0 (r.take n), r.drop n, sh) else (0, [], true)
def kI : Nat → List Bool → Bool → Nat × List Bool × Bool
  | 0, r, sh => (0, r, sh)
  | f + 1, r, sh => if (tk 1 r sh).1 = 1 then ((kI f (tk 1 r sh).2.1 (tk 1 r sh).2.2).1 + 1, (kI f (tk 1 r sh).2.1 (tk 1 r sh).2.2).2) else (0, (tk 1 r sh).2)
def wdt : Nat → Nat
  | 0 => 0 | 1 => 7 | 2 => 9 | 3 => 12 | _ => 64
def sgn (n : Nat) (v : Int) : Int := wI (wU (v * 2 ^ (64 - n))) / 2 ^ (64 - n)
def chI (r : List Bool) (sh : Bool) : Int × List Bool × Bool :=
  if (kI 4 r sh).1 = 0 then (0, (kI 4 r sh).2) else (sgn (wdt (kI 4 r sh).1) (tk (wdt (kI 4 r sh).1) (kI 4 r sh).2.1 (kI 4 r sh).2.2).1, (tk (wdt (kI 4 r sh).1) (kI 4 r sh).2.1 (kI 4 r sh).2.2).2)
def goI : Nat → Bool → Int → Int → List Int → List Bool → Bool → List Int × Bool
  | 0, _, _, _, out, _, sh => (out, sh)
  | f + 1, first, last, step, out, r, sh => if sh then (out, sh) else if first then goI f false (wI (tk 64 r sh).1) step (out ++ [wI (tk 64 r sh).1]) (tk 64 r sh).2.1 (tk 64 r sh).2.2
    else goI f false (wI (last + wI (step + (chI r sh).1))) (wI (step + (chI r sh).1)) (out ++ [wI (last + wI (step + (chI r sh).1))]) (chI r sh).2.1 (chI r sh).2.2
def unpI (s : List Bool) : List Int × Bool := goI (tk 16 s false).1.toNat true 0 0 [] (tk 16 s false).2.1 (tk 16 s false).2.2

def tkR (n : Nat) (s : List Bool) : List Bool × List Bool := if s.length < n then ([false], []) else (s.take n, s.drop n)
def kR : Nat → List Bool → Nat × List Bool
  | 0, s => (0, s)
  | f + 1, s => if (tkR 1 s).1 = [true] then ((kR f (tkR 1 s).2).1 + 1, (kR f (tkR 1 s).2).2) else (0, (tkR 1 s).2)
def sgR (b : List Bool) : Int := wI (if b.getD 0 false = true then wU (valF 0 b + (18446744073709551616 - 2 ^ b.length)) else valF 0 b)
def chR (s : List Bool) : Int × List Bool :=
  if (kR 4 s).1 = 0 then (0, (kR 4 s).2) else (sgR (tkR (wdt (kR 4 s).1) (kR 4 s).2).1, (tkR (wdt (kR 4 s).1) (kR 4 s).2).2)
def aheadR (out : List Int) (i : Nat) : Int := if 1 < i then wI (out.getD (i - 1) 0 - out.getD (i - 2) 0) else 0
def goR : Nat → Nat → List Int → List Bool → List Int
  | 0, _, out, _ => out
  | f + 1, i, out, s => if s = [] then out else if i = 0 then goR f 1 (out ++ [wI (valF 0 (tkR 64 s).1)]) (tkR 64 s).2
    else goR f (i + 1) (out ++ [wI (wI (out.getD (i - 1) 0 + aheadR out i) + (chR s).1)]) (chR s).2
def unpR (s : List Bool) : List Int := goR (valF 0 (tkR 16 s).1).toNat 0 [] (tkR 16 s).2

def I64 (z : Int) : Prop := -9223372036854775808 ≤ z ∧ z < 9223372036854775808
theorem wI_eq (c : Int) : wI c = (c + 9223372036854775808) % 18446744073709551616 - 9223372036854775808 := by
  unfold wI; rw [IntWalk.i64_left]; unfold wrap64; omega
theorem wU_eq (c : Int) : wU c = c % 18446744073709551616 := by unfold wU; exact IntKind.wrap_u64 _
theorem wI_bd (c : Int) : I64 (wI c) := by rw [wI_eq]; unfold I64; omega
theorem wI_id {c : Int} (h : I64 c) : wI c = c := by rw [wI_eq]; unfold I64 at h; omega
theorem wI_wU {c : Int} (h : I64 c) : wI (wU c) = c := by rw [wI_eq, wU_eq]; unfold I64 at h; omega
theorem tk_cons (b : Bool) (r : List Bool) (sh : Bool) : tk 1 (b :: r) sh = (b2i b, r, sh) := by
  unfold tk
  rw [if_pos (by simp)]
  simp [valF]
theorem tk_signs (v : Int) (n : Nat) (r : List Bool) (sh : Bool) : tk n (signs v n ++ r) sh = (v % 2 ^ n, r, sh) := by
  unfold tk
  have hl := signs_len v n
  rw [if_pos (by rw [List.length_append]; omega), List.take_left' hl, List.drop_left' hl, val_signs]
theorem tkR_cons (b : Bool) (r : List Bool) : tkR 1 (b :: r) = ([b], r) := by
  unfold tkR
  rw [if_neg (by simp)]
  simp
theorem tkR_signs (v : Int) (n : Nat) (r : List Bool) : tkR n (signs v n ++ r) = (signs v n, r) := by
  unfold tkR
  have hl := signs_len v n
  rw [if_neg (by rw [List.length_append]; omega), List.take_left' hl, List.drop_left' hl]
theorem kI0 (r : List Bool) (sh : Bool) : kI 4 (false :: r) sh = (0, r, sh) := by simp [kI, tk_cons, b2i]
theorem kI1 (r : List Bool) (sh : Bool) : kI 4 (true :: false :: r) sh = (1, r, sh) := by simp [kI, tk_cons, b2i]
theorem kI2 (r : List Bool) (sh : Bool) : kI 4 (true :: true :: false :: r) sh = (2, r, sh) := by simp [kI, tk_cons, b2i]
theorem kI3 (r : List Bool) (sh : Bool) : kI 4 (true :: true :: true :: false :: r) sh = (3, r, sh) := by simp [kI, tk_cons, b2i]
theorem kI4 (r : List Bool) (sh : Bool) : kI 4 (true :: true :: true :: true :: r) sh = (4, r, sh) := by simp [kI, tk_cons, b2i]
theorem kR0 (r : List Bool) : kR 4 (false :: r) = (0, r) := by simp [kR, tkR_cons]
theorem kR1 (r : List Bool) : kR 4 (true :: false :: r) = (1, r) := by simp [kR, tkR_cons]
theorem kR2 (r : List Bool) : kR 4 (true :: true :: false :: r) = (2, r) := by simp [kR, tkR_cons]
theorem kR3 (r : List Bool) : kR 4 (true :: true :: true :: false :: r) = (3, r) := by simp [kR, tkR_cons]
theorem kR4 (r : List Bool) : kR 4 (true :: true :: true :: true :: r) = (4, r) := by simp [kR, tkR_cons]
theorem sgn7 {c : Int} (h : -64 ≤ c ∧ c ≤ 63) : sgn 7 (wU c % 2 ^ 7) = c := by
  show wI (wU (wU c % 128 * 144115188075855872)) / 144115188075855872 = c
  rw [wI_eq, wU_eq, wU_eq]; omega
theorem sgn9 {c : Int} (h : -256 ≤ c ∧ c ≤ 255) : sgn 9 (wU c % 2 ^ 9) = c := by
  show wI (wU (wU c % 512 * 36028797018963968)) / 36028797018963968 = c
  rw [wI_eq, wU_eq, wU_eq]; omega
theorem sgn12 {c : Int} (h : -2048 ≤ c ∧ c ≤ 2047) : sgn 12 (wU c % 2 ^ 12) = c := by
  show wI (wU (wU c % 4096 * 4503599627370496)) / 4503599627370496 = c
  rw [wI_eq, wU_eq, wU_eq]; omega
theorem sgn64 {c : Int} (h : I64 c) : sgn 64 (wU c % 2 ^ 64) = c := by
  show wI (wU (wU c % 18446744073709551616 * 1)) / 1 = c
  unfold I64 at h
  rw [wI_eq, wU_eq, wU_eq]; omega
theorem chI_bits {c : Int} (h : I64 c) (r : List Bool) (sh : Bool) : chI (chBits c ++ r) sh = (c, r, sh) := by
  unfold chBits
  split
  · rename_i h0
    simp only [List.cons_append, List.nil_append]
    unfold chI; rw [kI0, if_pos rfl, h0]
  · split
    · rename_i h0 h1
      simp only [List.cons_append, List.nil_append, List.append_assoc]
      unfold chI; rw [kI1, if_neg (by simp)]
      show (sgn 7 (tk 7 (signs (wU c) 7 ++ r) sh).1, (tk 7 (signs (wU c) 7 ++ r) sh).2) = _
      rw [tk_signs, sgn7 h1]
    · split
      · rename_i h0 h1 h2
        simp only [List.cons_append, List.nil_append, List.append_assoc]
        unfold chI; rw [kI2, if_neg (by simp)]
        show (sgn 9 (tk 9 (signs (wU c) 9 ++ r) sh).1, (tk 9 (signs (wU c) 9 ++ r) sh).2) = _
        rw [tk_signs, sgn9 h2]
      · split
        · rename_i h0 h1 h2 h3
          simp only [List.cons_append, List.nil_append, List.append_assoc]
          unfold chI; rw [kI3, if_neg (by simp)]
          show (sgn 12 (tk 12 (signs (wU c) 12 ++ r) sh).1, (tk 12 (signs (wU c) 12 ++ r) sh).2) = _
          rw [tk_signs, sgn12 h3]
        · simp only [List.cons_append, List.nil_append, List.append_assoc]
          unfold chI; rw [kI4, if_neg (by simp)]
          show (sgn 64 (tk 64 (signs (wU c) 64 ++ r) sh).1, (tk 64 (signs (wU c) 64 ++ r) sh).2) = _
          rw [tk_signs, sgn64 h]
theorem head_signs (v : Int) (n : Nat) (hn : 0 < n) : (signs v n).getD 0 false = bitI v (n - 1) := by
  rw [signs_get v n 0 hn, Nat.sub_zero]
theorem sgR7 {c : Int} (h : -64 ≤ c ∧ c ≤ 63) : sgR (signs (wU c) 7) = c := by
  unfold sgR
  rw [head_signs _ _ (by decide), val_signs, signs_len]
  unfold bitI
  show wI (if (wU c / 64 % 2 == 1) = true then wU (wU c % 128 + (18446744073709551616 - 128)) else wU c % 128) = c
  split
  · rename_i h1
    rw [beq_iff_eq] at h1
    rw [wU_eq] at h1
    rw [wI_eq, wU_eq, wU_eq]; omega
  · rename_i h1
    rw [beq_iff_eq] at h1
    rw [wU_eq] at h1
    rw [wI_eq, wU_eq]; omega
theorem sgR9 {c : Int} (h : -256 ≤ c ∧ c ≤ 255) : sgR (signs (wU c) 9) = c := by
  unfold sgR
  rw [head_signs _ _ (by decide), val_signs, signs_len]
  unfold bitI
  show wI (if (wU c / 256 % 2 == 1) = true then wU (wU c % 512 + (18446744073709551616 - 512)) else wU c % 512) = c
  split
  · rename_i h1
    rw [beq_iff_eq] at h1
    rw [wU_eq] at h1
    rw [wI_eq, wU_eq, wU_eq]; omega
  · rename_i h1
    rw [beq_iff_eq] at h1
    rw [wU_eq] at h1
    rw [wI_eq, wU_eq]; omega
theorem sgR12 {c : Int} (h : -2048 ≤ c ∧ c ≤ 2047) : sgR (signs (wU c) 12) = c := by
  unfold sgR
  rw [head_signs _ _ (by decide), val_signs, signs_len]
  unfold bitI
  show wI (if (wU c / 2048 % 2 == 1) = true then wU (wU c % 4096 + (18446744073709551616 - 4096)) else wU c % 4096) = c
  split
  · rename_i h1
    rw [beq_iff_eq] at h1
    rw [wU_eq] at h1
    rw [wI_eq, wU_eq, wU_eq]; omega
  · rename_i h1
    rw [beq_iff_eq] at h1
    rw [wU_eq] at h1
    rw [wI_eq, wU_eq]; omega
theorem sgR64 {c : Int} (h : I64 c) : sgR (signs (wU c) 64) = c := by
  unfold sgR
  rw [val_signs, signs_len]
  have e : wU (wU c % 2 ^ 64 + (18446744073709551616 - 2 ^ 64)) = wU c % 2 ^ 64 := by
    show wU (wU c % 18446744073709551616 + (18446744073709551616 - 18446744073709551616)) = wU c % 18446744073709551616
    rw [wU_eq, wU_eq]; omega
  have e2 : wI (wU c % 2 ^ 64) = c := by
    show wI (wU c % 18446744073709551616) = c
    unfold I64 at h
    rw [wI_eq, wU_eq]; omega
  split
  · rw [e, e2]
  · exact e2
theorem chR_bits {c : Int} (h : I64 c) (r : List Bool) : chR (chBits c ++ r) = (c, r) := by
  unfold chBits
  split
  · rename_i h0
    simp only [List.cons_append, List.nil_append]
    unfold chR; rw [kR0, if_pos rfl, h0]
  · split
    · rename_i h0 h1
      simp only [List.cons_append, List.nil_append, List.append_assoc]
      unfold chR; rw [kR1, if_neg (by simp)]
      show (sgR (tkR 7 (signs (wU c) 7 ++ r)).1, (tkR 7 (signs (wU c) 7 ++ r)).2) = _
      rw [tkR_signs, sgR7 h1]
    · split
      · rename_i h0 h1 h2
        simp only [List.cons_append, List.nil_append, List.append_assoc]
        unfold chR; rw [kR2, if_neg (by simp)]
        show (sgR (tkR 9 (signs (wU c) 9 ++ r)).1, (tkR 9 (signs (wU c) 9 ++ r)).2) = _
        rw [tkR_signs, sgR9 h2]
      · split
        · rename_i h0 h1 h2 h3
          simp only [List.cons_append, List.nil_append, List.append_assoc]
          unfold chR; rw [kR3, if_neg (by simp)]
          show (sgR (tkR 12 (signs (wU c) 12 ++ r)).1, (tkR 12 (signs (wU c) 12 ++ r)).2) = _
          rw [tkR_signs, sgR12 h3]
        · simp only [List.cons_append, List.nil_append, List.append_assoc]
          unfold chR; rw [kR4, if_neg (by simp)]
          show (sgR (tkR 64 (signs (wU c) 64 ++ r)).1, (tkR 64 (signs (wU c) 64 ++ r)).2) = _
          rw [tkR_signs, sgR64 h]
/-- What the k-th time adds. -/
def ent (l : List Int) (k : Nat) : List Bool := if k = 0 then signs (wU (l.getD 0 0)) 64 else chBits (chAt l k)
def rs (l : List Int) : Nat → Nat → List Bool
  | _, 0 => []
  | k, f + 1 => ent l k ++ rs l (k + 1) f
theorem ts_ent (l : List Int) (k : Nat) : tsTo l (k + 1) = tsTo l k ++ ent l k := by
  cases k with
  | zero => rfl
  | succ k => rw [ts_next]; unfold ent; rw [if_neg (by omega)]
theorem ts_rs (l : List Int) : ∀ f k, tsTo l (k + f) = tsTo l k ++ rs l k f
  | 0, k => by rw [rs, List.append_nil]; rfl
  | f + 1, k => by
    rw [rs, ← List.append_assoc, ← ts_ent, ← ts_rs l f (k + 1)]
    congr 1
    omega
theorem ts_all (l : List Int) : tsTo l l.length = signs l.length 16 ++ rs l 0 l.length := by
  have := ts_rs l l.length 0
  rwa [Nat.zero_add] at this
theorem ent_ne (l : List Int) (k : Nat) (r : List Bool) : ent l k ++ r ≠ [] := by
  intro h
  have h2 := congrArg List.length h
  rw [List.length_append, List.length_nil] at h2
  have h3 : 0 < (ent l k).length := by
    unfold ent
    split
    · rw [signs_len]; decide
    · unfold chBits
      split
      · simp
      · split
        · simp
        · split
          · simp
          · split
            · simp
            · simp
  omega
def AllI (l : List Int) : Prop := ∀ z ∈ l, I64 z
theorem allI_get {l : List Int} (h : AllI l) (k : Nat) : I64 (l.getD k 0) := by
  rw [List.getD_eq_getElem?_getD]
  cases hk : l[k]? with
  | none => unfold I64; simp
  | some z => exact h z (List.mem_of_getElem? hk)
theorem take_get (l : List Int) {k i : Nat} (h : k < i) : (l.take i).getD k 0 = l.getD k 0 := by
  rw [List.getD_eq_getElem?_getD, List.getElem?_take, if_pos h, ← List.getD_eq_getElem?_getD]
theorem take_more (l : List Int) {i : Nat} (h : i < l.length) : l.take i ++ [l.getD i 0] = l.take (i + 1) := by
  rw [List.take_succ_eq_append_getElem h, List.getD_eq_getElem?_getD, List.getElem?_eq_getElem h]
  rfl
theorem step_next {l : List Int} (h : AllI l) {k : Nat} (hk : 1 ≤ k) : wI (stepAt l k + chAt l k) = wI (l.getD k 0 - l.getD (k - 1) 0) := by
  unfold chAt
  generalize l.getD k 0 - l.getD (k - 1) 0 = d
  generalize stepAt l k = s
  rw [wI_eq, wI_eq, wI_eq]
  omega
theorem last_next {l : List Int} (h : AllI l) (k : Nat) : wI (l.getD (k - 1) 0 + wI (l.getD k 0 - l.getD (k - 1) 0)) = l.getD k 0 := by
  have hk := allI_get h k
  unfold I64 at hk
  rw [wI_eq, wI_eq]
  omega
theorem step_succ (l : List Int) {k : Nat} (hk : 1 ≤ k) : stepAt l (k + 1) = wI (l.getD k 0 - l.getD (k - 1) 0) := by
  unfold stepAt
  rw [if_neg (by omega)]
  rfl
theorem goI_rs {l : List Int} (h : AllI l) : ∀ f k, 1 ≤ k → k + f = l.length → goI f false (l.getD (k - 1) 0) (stepAt l k) (l.take k) (rs l k f) false = (l, false)
  | 0, k, _, hkf => by
    rw [goI, List.take_of_length_le (by omega)]
  | f + 1, k, hk, hkf => by
    have hc : chI (rs l k (f + 1)) false = (chAt l k, rs l (k + 1) f, false) := by
      rw [rs]
      unfold ent
      rw [if_neg (by omega)]
      exact chI_bits (wI_bd _) _ _
    rw [goI, if_neg (by simp), if_neg (by simp), hc]
    show goI f false (wI (l.getD (k - 1) 0 + wI (stepAt l k + chAt l k))) (wI (stepAt l k + chAt l k)) (l.take k ++ [wI (l.getD (k - 1) 0 + wI (stepAt l k + chAt l k))]) (rs l (k + 1) f) false = _
    rw [step_next h hk, last_next h, take_more l (by omega), ← step_succ l hk]
    exact goI_rs h f (k + 1) (by omega) (by omega)
theorem unpI_ts {l : List Int} (h : AllI l) (hn : l.length ≤ 1000) : unpI (tsTo l l.length) = (l, false) := by
  unfold unpI
  rw [ts_all, tk_signs]
  have e : ((l.length : Int) % 2 ^ 16).toNat = l.length := by
    show ((l.length : Int) % 65536).toNat = _
    omega
  show goI ((l.length : Int) % 2 ^ 16).toNat true 0 0 [] (rs l 0 l.length) false = _
  rw [e]
  cases hl : l.length with
  | zero =>
    have : l = [] := List.eq_nil_of_length_eq_zero hl
    subst this
    rfl
  | succ m =>
    have hc : tk 64 (rs l 0 (m + 1)) false = (wU (l.getD 0 0) % 2 ^ 64, rs l 1 m, false) := by
      rw [rs]
      unfold ent
      rw [if_pos rfl]
      exact tk_signs _ _ _ _
    have e2 : wI (wU (l.getD 0 0) % 2 ^ 64) = l.getD 0 0 := by
      show wI (wU (l.getD 0 0) % 18446744073709551616) = _
      have hk := allI_get h 0
      unfold I64 at hk
      rw [wI_eq, wU_eq]; omega
    rw [goI, if_neg (by simp), if_pos rfl, hc]
    show goI m false (wI (wU (l.getD 0 0) % 2 ^ 64)) 0 ([] ++ [wI (wU (l.getD 0 0) % 2 ^ 64)]) (rs l 1 m) false = _
    rw [e2]
    have h0 : ([] : List Int) ++ [l.getD 0 0] = l.take 1 := by
      have := take_more l (i := 0) (by omega)
      rwa [List.take_zero] at this
    rw [h0]
    exact goI_rs h m 1 (by omega) (by omega)
theorem goR_rs {l : List Int} (h : AllI l) : ∀ f k, 1 ≤ k → k + f = l.length → goR f k (l.take k) (rs l k f) = l
  | 0, k, _, hkf => by
    rw [goR, List.take_of_length_le (by omega)]
  | f + 1, k, hk, hkf => by
    have hne : rs l k (f + 1) ≠ [] := ent_ne l k _
    have hc : chR (rs l k (f + 1)) = (chAt l k, rs l (k + 1) f) := by
      rw [rs]
      unfold ent
      rw [if_neg (by omega)]
      exact chR_bits (wI_bd _) _
    have ha : aheadR (l.take k) k = stepAt l k := by
      unfold aheadR stepAt
      by_cases h1 : 1 < k
      · rw [if_pos h1, if_neg (by omega), take_get l (by omega), take_get l (by omega)]
      · rw [if_neg h1, if_pos (by omega)]
    rw [goR, if_neg hne, if_neg (by omega), hc, ha, take_get l (by omega)]
    have e : wI (wI (l.getD (k - 1) 0 + stepAt l k) + chAt l k) = l.getD k 0 := by
      have h1 := step_next h hk
      have h2 := last_next h k
      rw [← h1] at h2
      rw [← h2]
      generalize l.getD (k - 1) 0 = a
      generalize stepAt l k = s
      generalize chAt l k = c
      rw [wI_eq, wI_eq, wI_eq, wI_eq]
      omega
    show goR f (k + 1) (l.take k ++ [wI (wI (l.getD (k - 1) 0 + stepAt l k) + chAt l k)]) (rs l (k + 1) f) = _
    rw [e, take_more l (by omega)]
    exact goR_rs h f (k + 1) (by omega) (by omega)
theorem unpR_ts {l : List Int} (h : AllI l) (hn : l.length ≤ 1000) : unpR (tsTo l l.length) = l := by
  unfold unpR
  rw [ts_all, tkR_signs]
  have e : (valF 0 (signs (l.length : Int) 16)).toNat = l.length := by
    rw [val_signs]
    show ((l.length : Int) % 65536).toNat = _
    omega
  show goR (valF 0 (signs (l.length : Int) 16)).toNat 0 [] (rs l 0 l.length) = _
  rw [e]
  cases hl : l.length with
  | zero =>
    have : l = [] := List.eq_nil_of_length_eq_zero hl
    subst this
    rfl
  | succ m =>
    have hc : tkR 64 (rs l 0 (m + 1)) = (signs (wU (l.getD 0 0)) 64, rs l 1 m) := by
      rw [rs]
      unfold ent
      rw [if_pos rfl]
      exact tkR_signs _ _ _
    have e2 : wI (valF 0 (signs (wU (l.getD 0 0)) 64)) = l.getD 0 0 := by
      rw [val_signs]
      show wI (wU (l.getD 0 0) % 18446744073709551616) = _
      have hk := allI_get h 0
      unfold I64 at hk
      rw [wI_eq, wU_eq]; omega
    have hne : rs l 0 (m + 1) ≠ [] := ent_ne l 0 _
    rw [goR, if_neg hne, if_pos rfl, hc]
    show goR m 1 ([] ++ [wI (valF 0 (signs (wU (l.getD 0 0)) 64))]) (rs l 1 m) = _
    rw [e2]
    have h0 : ([] : List Int) ++ [l.getD 0 0] = l.take 1 := by
      have := take_more l (i := 0) (by omega)
      rwa [List.take_zero] at this
    rw [h0]
    exact goR_rs h m 1 (by omega) (by omega)
theorem allI_snoc {l : List Int} (h : AllI l) (c : Int) : AllI (l ++ [wI c]) := by
  intro z hz
  rcases List.mem_append.1 hz with h1 | h1
  · exact h z h1
  · rw [List.mem_singleton.1 h1]; exact wI_bd c
theorem goI_all : ∀ f first last step out r sh, AllI out → AllI (goI f first last step out r sh).1
  | 0, _, _, _, out, _, _, h => h
  | f + 1, first, last, step, out, r, sh, h => by
    rw [goI]
    split
    · exact h
    · split
      · exact goI_all f _ _ _ _ _ _ (allI_snoc h _)
      · exact goI_all f _ _ _ _ _ _ (allI_snoc h _)
theorem goR_all : ∀ f i out s, AllI out → AllI (goR f i out s)
  | 0, _, out, _, h => h
  | f + 1, i, out, s, h => by
    rw [goR]
    split
    · exact h
    · split
      · exact goR_all f _ _ _ (allI_snoc h _)
      · exact goR_all f _ _ _ (allI_snoc h _)
theorem unpI_all (s : List Bool) : AllI (unpI s).1 := goI_all _ _ _ _ _ _ _ (fun z hz => by simp at hz)
theorem unpR_all (s : List Bool) : AllI (unpR s) := goR_all _ _ _ _ (fun z hz => by simp at hz)
def okI (s : List Bool) : Prop := (unpI s).2 = false ∧ (unpI s).1.length ≤ 1000 ∧ tsTo (unpI s).1 (unpI s).1.length = s
def okR (s : List Bool) : Prop := (unpR s).length ≤ 1000 ∧ tsTo (unpR s) (unpR s).length = s
instance (s : List Bool) : Decidable (okI s) := inferInstanceAs (Decidable (_ ∧ _))
instance (s : List Bool) : Decidable (okR s) := inferInstanceAs (Decidable (_ ∧ _))
theorem okI_R {s : List Bool} (h : okI s) : okR s ∧ unpR s = (unpI s).1 := by
  obtain ⟨h1, h2, h3⟩ := h
  have h4 := unpR_ts (unpI_all s) h2
  rw [h3] at h4
  exact ⟨⟨by rw [h4]; exact h2, by rw [h4]; exact h3⟩, h4⟩
theorem okR_I {s : List Bool} (h : okR s) : okI s := by
  obtain ⟨h2, h3⟩ := h
  have h4 := unpI_ts (unpR_all s) h2
  rw [h3] at h4
  exact ⟨by rw [h4], by rw [h4]; exact h2, by rw [h4]; exact h3⟩
end Go.Gh
