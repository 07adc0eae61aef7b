/-
  Times read back from bits, by the reader and by the reference: as plain functions; on what was packed both give the times back.
-/
import Derived.Test.YtbifhmbfmoeofaaDoorCo1
import Derived.Test.YtbifhmbfmoeofaaDoorCo3
import Derived.WalkKit
import Derived.Laws.BitsAllLaws
namespace Go.Gh
open Go.RowKit
set_option linter.unusedVariables false

def tk (n : Nat) (r : List Bool) (sh : Bool) : Int × List Bool × Bool := if n ≤ r.length then (valF 0 (r.take n), r.drop n, sh) else (0, [], true)
def kI : Nat → List Bool → Bool → Nat × List Bool × Bool
  | 0, r, sh => (0, r, sh)
  | f + 1, r, sh => if (tk 1 r sh).1 = 1 then ((kI f (tk 1 r sh).2.1 (tk 1 r sh).2.2).1 + 1, (kI f (tk 1 r sh).2.1 (tk 1 r sh).2.2).2) else (0, (tk 1 r sh).2)
def wdt : Nat → Nat
  | 0 => 0 | 1 => 7 | 2 => 9 | 3 => 12 | _ => 64
def sgn (n : Nat) (v : Int) : Int := wI (wU (v * 2 ^ (64 - n))) / 2 ^ (64 - n)
def chI (r : List Bool) (sh : Bool) : Int × List Bool × Bool :=
  if (kI 4 r sh).1 = 0 then (0, (kI 4 r sh).2) else (sgn (wdt (kI 4 r sh).1) (tk (wdt (kI 4 r sh).1) (kI 4 r sh).2.1 (kI 4 r sh).2.2).1, (tk (wdt (kI 4 r sh).1) (kI 4 r sh).2.1 (kI 4 r sh).2.2).2)
def goI : Nat → Bool → Int → Int → List Int → List Bool → Bool → List Int × Bool
  | 0, _, _, _, out, _, sh => (out, sh)
  | f + 1, first, last, step, out, r, sh => if sh then (out, sh) else if first then goI f false (wI (tk 64 r sh).1) step (out ++ [wI (tk 64 r sh).1]) (tk 64 r sh).2.1 (tk 64 r sh).2.2
    else goI f false (wI (last + wI (step + (chI r sh).1))) (wI (step + (chI r sh).1)) (out ++ [wI (last + wI (step + (chI r sh).1))]) (chI r sh).2.1 (chI r sh).2.2
def unpI (s : List Bool) : List Int × Bool := goI (tk 16 s false).1.toNat true 0 0 [] (tk 16 s false).2.1 (tk 16 s false).2.2

def tkR (n : Nat) (s : List Bool) : List Bool × List Bool := if s.length < n then ([false], []) else (s.take n, s.drop n)
def kR : Nat → List Bool → Nat × List Bool
  | 0, s => (0, s)
  | f + 1, s => if (tkR 1 s).1 = [true] then ((kR f (tkR 1 s).2).1 + 1, (kR f (tkR 1 s).2).2) else (0, (tkR 1 s).2)
def sgR (b : List Bool) : Int := wI (if b.getD 0 false = true then wU (valF 0 b + (18446744073709551616 - 2 ^ b.length)) else valF 0 b)
def chR (s : List Bool) : Int × List Bool :=
  if (kR 4 s).1 = 0 then (0, (kR 4 s).2) else (sgR (tkR (wdt (kR 4 s).1) (kR 4 s).2).1, (tkR (wdt (kR 4 s).1) (kR 4 s).2).2)
def aheadR (out : List Int) (i : Nat) : Int := if 1 < i then wI (out.getD (i - 1) 0 - out.getD (i - 2) 0) else 0
def goR : Nat → Nat → List Int → List Bool → List Int
  | 0, _, out, _ => out
  | f + 1, i, out, s => if s = [] then out else if i = 0 then goR f 1 (out ++ [wI (valF 0 (tkR 64 s).1)]) (tkR 64 s).2
    else goR f (i + 1) (out ++ [wI (wI (out.getD (i - 1) 0 + aheadR out i) + (chR s).1)]) (chR s).2
def unpR (s : List Bool) : List Int := goR (valF 0 (tkR 16 s).1).toNat 0 [] (tkR 16 s).2

def I64 (z : Int) : Prop := -9223372036854775808 ≤ z ∧ z < 9223372036854775808
theorem wI_eq (c : Int) : wI c = (c + 9223372036854775808) % 18446744073709551616 - 9223372036854775808 := by
  unfold wI; rw [IntWalk.i64_left]; unfold wrap64; omega
theorem wU_eq (c : Int) : wU c = c % 18446744073709551616 := by unfold wU; exact IntKind.wrap_u64 _
theorem wI_bd (c : Int) : I64 (wI c) := by rw [wI_eq]; unfold I64; omega
theorem wI_id {c : Int} (h : I64 c) : wI c = c := by rw [wI_eq]; unfold I64 at h; omega
theorem wI_wU {c : Int} (h : I64 c) : wI (wU c) = c := by rw [wI_eq, wU_eq]; unfold I64 at h; omega
theorem tk_cons (b : Bool) (r : List Bool) (sh : Bool) : tk 1 (b :: r) sh = (b2i b, r, sh) := by
  unfold tk
  rw [if_pos (by simp)]
  simp [valF]
theorem tk_signs (v : Int) (n : Nat) (r : List Bool) (sh : Bool) : tk n (signs v n ++ r) sh = (v % 2 ^ n, r, sh) := by
  unfold tk
  have hl := signs_len v n
  rw [if_pos (by rw [List.length_append]; omega), List.take_left' hl, List.drop_left' hl, val_signs]
theorem tkR_cons (b : Bool) (r : List Bool) : tkR 1 (b :: r) = ([b], r) := by
  unfold tkR
  rw [if_neg (by simp)]
  simp
theorem tkR_signs (v : Int) (n : Nat) (r : List Bool) : tkR n (signs v n ++ r) = (signs v n, r) := by
  unfold tkR
  have hl := signs_len v n
  rw [if_neg (by rw [List.length_append]; omega), List.take_left' hl, List.drop_left' hl]
theorem kI0 (r : List Bool) (sh : Bool) : kI 4 (false :: r) sh = (0, r, sh) := by simp [kI, tk_cons, b2i]
theorem kI1 (r : List Bool) (sh : Bool) : kI 4 (true :: false :: r) sh = (1, r, sh) := by simp [kI, tk_cons, b2i]
theorem kI2 (r : List Bool) (sh : Bool) : kI 4 (true :: true :: false :: r) sh = (2, r, sh) := by simp [kI, tk_cons, b2i]
theorem kI3 (r : List Bool) (sh : Bool) : kI 4 (true :: true :: true :: false :: r) sh = (3, r, sh) := by simp [kI, tk_cons, b2i]
theorem kI4 (r : List Bool) (sh : Bool) : kI 4 (true :: true :: true :: true :: r) sh = (4, r, sh) := by simp [kI, tk_cons, b2i]
theorem kR0 (r : List Bool) : kR 4 (false :: r) = (0, r) := by simp [kR, tkR_cons]
theorem kR1 (r : List Bool) : kR 4 (true :: false :: r) = (1, r) := by simp [kR, tkR_cons]
theorem kR2 (r : List Bool) : kR 4 (true :: true :: false :: r) = (2, r) := by simp [kR, tkR_cons]
theorem kR3 (r : List Bool) : kR 4 (true :: true :: true :: false :: r) = (3, r) := by simp [kR, tkR_cons]
theorem kR4 (r : List Bool) : kR 4 (true :: true :: true :: true :: r) = (4, r) := by simp [kR, tkR_cons]
theorem sgn7 {c : Int} (h : -64 ≤ c ∧ c ≤ 63) : sgn 7 (wU c % 2 ^ 7) = c := by
  show wI (wU (wU c % 128 * 144115188075855872)) / 144115188075855872 = c
  rw [wI_eq, wU_eq, wU_eq]; omega
theorem sgn9 {c : Int} (h : -256 ≤ c ∧ c ≤ 255) : sgn 9 (wU c % 2 ^ 9) = c := by
  show wI (wU (wU c % 512 * 36028797018963968)) / 36028797018963968 = c
  rw [wI_eq, wU_eq, wU_eq]; omega
theorem sgn12 {c : Int} (h : -2048 ≤ c ∧ c ≤ 2047) : sgn 12 (wU c % 2 ^ 12) = c := by
  show wI (wU (wU c % 4096 * 4503599627370496)) / 4503599627370496 = c
  rw [wI_eq, wU_eq, wU_eq]; omega
theorem sgn64 {c : Int} (h : I64 c) : sgn 64 (wU c % 2 ^ 64) = c := by
  show wI (wU (wU c % 18446744073709551616 * 1)) / 1 = c
  unfold I64 at h
  rw [wI_eq, wU_eq, wU_eq]; omega
theorem chI_bits {c : Int} (h : I64 c) (r : List Bool) (sh : Bool) : chI (chBits c ++ r) sh = (c, r, sh) := by
  unfold chBits
  split
  · rename_i h0
    simp only [List.cons_append, List.nil_append]
    unfold chI; rw [kI0, if_pos rfl, h0]
  · split
    · rename_i h0 h1
      simp only [List.cons_append, List.nil_append, List.append_assoc]
      unfold chI; rw [kI1, if_neg (by simp)]
      show (sgn 7 (tk 7 (signs (wU c) 7 ++ r) sh).1, (tk 7 (signs (wU c) 7 ++ r) sh).2) = _
      rw [tk_signs, sgn7 h1]
    · split
      · rename_i h0 h1 h2
        simp only [List.cons_append, List.nil_append, List.append_assoc]
        unfold chI; rw [kI2, if_neg (by simp)]
        show (sgn 9 (tk 9 (signs (wU c) 9 ++ r) sh).1, (tk 9 (signs (wU c) 9 ++ r) sh).2) = _
        rw [tk_signs, sgn9 h2]
      · split
        · rename_i h0 h1 h2 h3
          simp only [List.cons_append, List.nil_append, List.append_assoc]
          unfold chI; rw [kI3, if_neg (by simp)]
          show (sgn 12 (tk 12 (signs (wU c) 12 ++ r) sh).1, (tk 12 (signs (wU c) 12 ++ r) sh).2) = _
          rw [tk_signs, sgn12 h3]
        · simp only [List.cons_append, List.nil_append, List.append_assoc]
          unfold chI; rw [kI4, if_neg (by simp)]
          show (sgn 64 (tk 64 (signs (wU c) 64 ++ r) sh).1, (tk 64 (signs (wU c) 64 ++ r) sh).2) = _
          rw [tk_signs, sgn64 h]
theorem head_signs (v : Int) (n : Nat) (hn : 0 < n) : (signs v n).getD 0 false = bitI v (n - 1) := by
  rw [signs_get v n 0 hn, Nat.sub_zero]
theorem sgR7 {c : Int} (h : -64 ≤ c ∧ c ≤ 63) : sgR (signs (wU c) 7) = c := by
  unfold sgR
  rw [head_signs _ _ (by decide), val_signs, signs_len]
  unfold bitI
  show wI (if (wU c / 64 % 2 == 1) = true then wU (wU c % 128 + (18446744073709551616 - 128)) else wU c % 128) = c
  split
  · rename_i h1
    rw [beq_iff_eq] at h1
    rw [wU_eq] at h1
    rw [wI_eq, wU_eq, wU_eq]; omega
  · rename_i h1
    rw [beq_iff_eq] at h1
    rw [wU_eq] at h1
    rw [wI_eq, wU_eq]; omega
theorem sgR9 {c : Int} (h : -256 ≤ c ∧ c ≤ 255) : sgR (signs (wU c) 9) = c := by
  unfold sgR
  rw [head_signs _ _ (by decide), val_signs, signs_len]
  unfold bitI
  show wI (if (wU c / 256 % 2 == 1) = true then wU (wU c % 512 + (18446744073709551616 - 512)) else wU c % 512) = c
  split
  · rename_i h1
    rw [beq_iff_eq] at h1
    rw [wU_eq] at h1
    rw [wI_eq, wU_eq, wU_eq]; omega
  · rename_i h1
    rw [beq_iff_eq] at h1
    rw [wU_eq] at h1
    rw [wI_eq, wU_eq]; omega
theorem sgR12 {c : Int} (h : -2048 ≤ c ∧ c ≤ 2047) : sgR (signs (wU c) 12) = c := by
  unfold sgR
  rw [head_signs _ _ (by decide), val_signs, signs_len]
  unfold bitI
  show wI (if (wU c / 2048 % 2 == 1) = true then wU (wU c % 4096 + (18446744073709551616 - 4096)) else wU c % 4096) = c
  split
  · rename_i h1
    rw [beq_iff_eq] at h1
    rw [wU_eq] at h1
    rw [wI_eq, wU_eq, wU_eq]; omega
  · rename_i h1
    rw [beq_iff_eq] at h1
    rw [wU_eq] at h1
    rw [wI_eq, wU_eq]; omega
theorem sgR64 {c : Int} (h : I64 c) : sgR (signs (wU c) 64) = c := by
  unfold sgR
  rw [val_signs, signs_len]
  have e : wU (wU c % 2 ^ 64 + (18446744073709551616 - 2 ^ 64)) = wU c % 2 ^ 64 := by
    show wU (wU c % 18446744073709551616 + (18446744073709551616 - 18446744073709551616)) = wU c % 18446744073709551616
    rw [wU_eq, wU_eq]; omega
  have e2 : wI (wU c % 2 ^ 64) = c := by
    show wI (wU c % 18446744073709551616) = c
    unfold I64 at h
    rw [wI_eq, wU_eq]; omega
  split
  · rw [e, e2]
  · exact e2
theorem chR_bits {c : Int} (h : I64 c) (r : List Bool) : chR (chBits c ++ r) = (c, r) := by
  unfold chBits
  split
  · rename_i h0
    simp only [List.cons_append, List.nil_append]
    unfold chR; rw [kR0, if_pos rfl, h0]
  · split
    · rename_i h0 h1
      simp only [List.cons_append, List.nil_append, List.append_assoc]
      unfold chR; rw [kR1, if_neg (by simp)]
      show (sgR (tkR 7 (signs (wU c) 7 ++ r)).1, (tkR 7 (signs (wU c) 7 ++ r)).2) = _
      rw [tkR_signs, sgR7 h1]
    · split
      · rename_i h0 h1 h2
        simp only [List.cons_append, List.nil_append, List.append_assoc]
        unfold chR; rw [kR2, if_neg (by simp)]
        show (sgR (tkR 9 (signs (wU c) 9 ++ r)).1, (tkR 9 (signs (wU c) 9 ++ r)).2) = _
        rw [tkR_signs, sgR9 h2]
      · split
        · rename_i h0 h1 h2 h3
          simp only [List.cons_append, List.nil_append, List.append_assoc]
          unfold chR; rw [kR3, if_neg (by simp)]
          show (sgR (tkR 12 (signs (wU c) 12 ++ r)).1, (tkR 12 (signs (wU c) 12 ++ r)).2) = _
          rw [tkR_signs, sgR12 h3]
        · simp only [List.cons_append, List.nil_append, List.append_assoc]
          unfold chR; rw [kR4, if_neg (by simp)]
          show (sgR (tkR 64 (signs (wU c) 64 ++ r)).1, (tkR 64 (signs (wU c) 64 ++ r)).2) = _
          rw [tkR_signs, sgR64 h]
/-- What the k-th time adds. -/
def ent (l : List Int) (k : Nat) : List Bool := if k = 0 then signs (wU (l.getD 0 0)) 64 else chBits (chAt l k)
def rs (l : List Int) : Nat → Nat → List Bool
  | _, 0 => []
  | k, f + 1 => ent l k ++ rs l (k + 1) f
theorem ts_ent (l : List Int) (k : Nat) : tsTo l (k + 1) = tsTo l k ++ ent l k := by
  cases k with
  | zero => rfl
  | succ k => rw [ts_next]; unfold ent; rw [if_neg (by omega)]
theorem ts_rs (l : List Int) : ∀ f k, tsTo l (k + f) = tsTo l k ++ rs l k f
  | 0, k => by rw [rs, List.append_nil]; rfl
  | f + 1, k => by
    rw [rs, ← List.append_assoc, ← ts_ent, ← ts_rs l f (k + 1)]
    congr 1
    omega
theorem ts_all (l : List Int) : tsTo l l.length = signs l.length 16 ++ rs l 0 l.length := by
  have := ts_rs l l.length 0
  rwa [Nat.zero_add] at this
theorem ent_ne (l : List Int) (k : Nat) (r : List Bool) : ent l k ++ r ≠ [] := by
  intro h
  have h2 := congrArg List.length h
  rw [List.length_append, List.length_nil] at h2
  have h3 : 0 < (ent l k).length := by
    unfold ent
    split
    · rw [signs_len]; decide
    · unfold chBits
      split
      · simp
      · split
        · simp
        · split
          · simp
          · split
            · simp
            · simp
  omega
def AllI (l : List Int) : Prop := ∀ z ∈ l, I64 z
theorem allI_get {l : List Int} (h : AllI l) (k : Nat) : I64 (l.getD k 0) := by
  rw [List.getD_eq_getElem?_getD]
  cases hk : l[k]? with
  | none => unfold I64; simp
  | some z => exact h z (List.mem_of_getElem? hk)
theorem take_get (l : List Int) {k i : Nat} (h : k < i) : (l.take i).getD k 0 = l.getD k 0 := by
  rw [List.getD_eq_getElem?_getD, List.getElem?_take, if_pos h, ← List.getD_eq_getElem?_getD]
theorem take_more (l : List Int) {i : Nat} (h : i < l.length) : l.take i ++ [l.getD i 0] = l.take (i + 1) := by
  rw [List.take_succ_eq_append_getElem h, List.getD_eq_getElem?_getD, List.getElem?_eq_getElem h]
  rfl
theorem step_next {l : List Int} (h : AllI l) {k : Nat} (hk : 1 ≤ k) : wI (stepAt l k + chAt l k) = wI (l.getD k 0 - l.getD (k - 1) 0) := by
  unfold chAt
  generalize l.getD k 0 - l.getD (k - 1) 0 = d
  generalize stepAt l k = s
  rw [wI_eq, wI_eq, wI_eq]
  omega
theorem last_next {l : List Int} (h : AllI l) (k : Nat) : wI (l.getD (k - 1) 0 + wI (l.getD k 0 - l.getD (k - 1) 0)) = l.getD k 0 := by
  have hk := allI_get h k
  unfold I64 at hk
  rw [wI_eq, wI_eq]
  omega
theorem step_succ (l : List Int) {k : Nat} (hk : 1 ≤ k) : stepAt l (k + 1) = wI (l.getD k 0 - l.getD (k - 1) 0) := by
  unfold stepAt
  rw [if_neg (by omega)]
  rfl
theorem goI_rs {l : List Int} (h : AllI l) : ∀ f k, 1 ≤ k → k + f = l.length → goI f false (l.getD (k - 1) 0) (stepAt l k) (l.take k) (rs l k f) false = (l, false)
  | 0, k, _, hkf => by
    rw [goI, List.take_of_length_le (by omega)]
  | f + 1, k, hk, hkf => by
    have hc : chI (rs l k (f + 1)) false = (chAt l k, rs l (k + 1) f, false) := by
      rw [rs]
      unfold ent
      rw [if_neg (by omega)]
      exact chI_bits (wI_bd _) _ _
    rw [goI, if_neg (by simp), if_neg (by simp), hc]
    show goI f false (wI (l.getD (k - 1) 0 + wI (stepAt l k + chAt l k))) (wI (stepAt l k + chAt l k)) (l.take k ++ [wI (l.getD (k - 1) 0 + wI (stepAt l k + chAt l k))]) (rs l (k + 1) f) false = _
    rw [step_next h hk, last_next h, take_more l (by omega), ← step_succ l hk]
    exact goI_rs h f (k + 1) (by omega) (by omega)
theorem unpI_ts {l : List Int} (h : AllI l) (hn : l.length ≤ 1000) : unpI (tsTo l l.length) = (l, false) := by
  unfold unpI
  rw [ts_all, tk_signs]
  have e : ((l.length : Int) % 2 ^ 16).toNat = l.length := by
    show ((l.length : Int) % 65536).toNat = _
    omega
  show goI ((l.length : Int) % 2 ^ 16).toNat true 0 0 [] (rs l 0 l.length) false = _
  rw [e]
  cases hl : l.length with
  | zero =>
    have : l = [] := List.eq_nil_of_length_eq_zero hl
    subst this
    rfl
  | succ m =>
    have hc : tk 64 (rs l 0 (m + 1)) false = (wU (l.getD 0 0) % 2 ^ 64, rs l 1 m, false) := by
      rw [rs]
      unfold ent
      rw [if_pos rfl]
      exact tk_signs _ _ _ _
    have e2 : wI (wU (l.getD 0 0) % 2 ^ 64) = l.getD 0 0 := by
      show wI (wU (l.getD 0 0) % 18446744073709551616) = _
      have hk := allI_get h 0
      unfold I64 at hk
      rw [wI_eq, wU_eq]; omega
    rw [goI, if_neg (by simp), if_pos rfl, hc]
    show goI m false (wI (wU (l.getD 0 0) % 2 ^ 64)) 0 ([] ++ [wI (wU (l.getD 0 0) % 2 ^ 64)]) (rs l 1 m) false = _
    rw [e2]
    have h0 : ([] : List Int) ++ [l.getD 0 0] = l.take 1 := by
      have := take_more l (i := 0) (by omega)
      rwa [List.take_zero] at this
    rw [h0]
    exact goI_rs h m 1 (by omega) (by omega)
theorem goR_rs {l : List Int} (h : AllI l) : ∀ f k, 1 ≤ k → k + f = l.length → goR f k (l.take k) (rs l k f) = l
  | 0, k, _, hkf => by
    rw [goR, List.take_of_length_le (by omega)]
  | f + 1, k, hk, hkf => by
    have hne : rs l k (f + 1) ≠ [] := ent_ne l k _
    have hc : chR (rs l k (f + 1)) = (chAt l k, rs l (k + 1) f) := by
      rw [rs]
      unfold ent
      rw [if_neg (by omega)]
      exact chR_bits (wI_bd _) _
    have ha : aheadR (l.take k) k = stepAt l k := by
      unfold aheadR stepAt
      by_cases h1 : 1 < k
      · rw [if_pos h1, if_neg (by omega), take_get l (by omega), take_get l (by omega)]
      · rw [if_neg h1, if_pos (by omega)]
    rw [goR, if_neg hne, if_neg (by omega), hc, ha, take_get l (by omega)]
    have e : wI (wI (l.getD (k - 1) 0 + stepAt l k) + chAt l k) = l.getD k 0 := by
      have h1 := step_next h hk
      have h2 := last_next h k
      rw [← h1] at h2
      rw [← h2]
      generalize l.getD (k - 1) 0 = a
      generalize stepAt l k = s
      generalize chAt l k = c
      rw [wI_eq, wI_eq, wI_eq, wI_eq]
      omega
    show goR f (k + 1) (l.take k ++ [wI (wI (l.getD (k - 1) 0 + stepAt l k) + chAt l k)]) (rs l (k + 1) f) = _
    rw [e, take_more l (by omega)]
    exact goR_rs h f (k + 1) (by omega) (by omega)
theorem unpR_ts {l : List Int} (h : AllI l) (hn : l.length ≤ 1000) : unpR (tsTo l l.length) = l := by
  unfold unpR
  rw [ts_all, tkR_signs]
  have e : (valF 0 (signs (l.length : Int) 16)).toNat = l.length := by
    rw [val_signs]
    show ((l.length : Int) % 65536).toNat = _
    omega
  show goR (valF 0 (signs (l.length : Int) 16)).toNat 0 [] (rs l 0 l.length) = _
  rw [e]
  cases hl : l.length with
  | zero =>
    have : l = [] := List.eq_nil_of_length_eq_zero hl
    subst this
    rfl
  | succ m =>
    have hc : tkR 64 (rs l 0 (m + 1)) = (signs (wU (l.getD 0 0)) 64, rs l 1 m) := by
      rw [rs]
      unfold ent
      rw [if_pos rfl]
      exact tkR_signs _ _ _
    have e2 : wI (valF 0 (signs (wU (l.getD 0 0)) 64)) = l.getD 0 0 := by
      rw [val_signs]
      show wI (wU (l.getD 0 0) % 18446744073709551616) = _
      have hk := allI_get h 0
      unfold I64 at hk
      rw [wI_eq, wU_eq]; omega
    have hne : rs l 0 (m + 1) ≠ [] := ent_ne l 0 _
    rw [goR, if_neg hne, if_pos rfl, hc]
    show goR m 1 ([] ++ [wI (valF 0 (signs (wU (l.getD 0 0)) 64))]) (rs l 1 m) = _
    rw [e2]
    have h0 : ([] : List Int) ++ [l.getD 0 0] = l.take 1 := by
      have := take_more l (i := 0) (by omega)
      rwa [List.take_zero] at this
    rw [h0]
    exact goR_rs h m 1 (by omega) (by omega)
theorem allI_snoc {l : List Int} (h : AllI l) (c : Int) : AllI (l ++ [wI c]) := by
  intro z hz
  rcases List.mem_append.1 hz with h1 | h1
  · exact h z h1
  · rw [List.mem_singleton.1 h1]; exact wI_bd c
theorem goI_all : ∀ f first last step out r sh, AllI out → AllI (goI f first last step out r sh).1
  | 0, _, _, _, out, _, _, h => h
  | f + 1, first, last, step, out, r, sh, h => by
    rw [goI]
    split
    · exact h
    · split
      · exact goI_all f _ _ _ _ _ _ (allI_snoc h _)
      · exact goI_all f _ _ _ _ _ _ (allI_snoc h _)
theorem goR_all : ∀ f i out s, AllI out → AllI (goR f i out s)
  | 0, _, out, _, h => h
  | f + 1, i, out, s, h => by
    rw [goR]
    split
    · exact h
    · split
      · exact goR_all f _ _ _ (allI_snoc h _)
      · exact goR_all f _ _ _ (allI_snoc h _)
theorem unpI_all (s : List Bool) : AllI (unpI s).1 := goI_all _ _ _ _ _ _ _ (fun z hz => by simp at hz)
theorem unpR_all (s : List Bool) : AllI (unpR s) := goR_all _ _ _ _ (fun z hz => by simp at hz)
def okI (s : List Bool) : Prop := (unpI s).2 = false ∧ (unpI s).1.length ≤ 1000 ∧ tsTo (unpI s).1 (unpI s).1.length = s
def okR (s : List Bool) : Prop := (unpR s).length ≤ 1000 ∧ tsTo (unpR s) (unpR s).length = s
instance (s : List Bool) : Decidable (okI s) := inferInstanceAs (Decidable (_ ∧ _))
instance (s : List Bool) : Decidable (okR s) := inferInstanceAs (Decidable (_ ∧ _))
theorem okI_R {s : List Bool} (h : okI s) : okR s ∧ unpR s = (unpI s).1 := by
  obtain ⟨h1, h2, h3⟩ := h
  have h4 := unpR_ts (unpI_all s) h2
  rw [h3] at h4
  exact ⟨⟨by rw [h4]; exact h2, by rw [h4]; exact h3⟩, h4⟩
theorem okR_I {s : List Bool} (h : okR s) : okI s := by
  obtain ⟨h2, h3⟩ := h
  have h4 := unpI_ts (unpR_all s) h2
  rw [h3] at h4
  exact ⟨by rw [h4], by rw [h4]; exact h2, by rw [h4]; exact h3⟩
end Go.Gh
/-
  Measures read back from bits, by the reader and by the reference: as plain functions; on what was packed both give the measures back.
-/
namespace Go.Gh
open Go.RowKit
set_option linter.unusedVariables false

/-- A reader's rest and mark, a window. -/
structure Rd where
  r : List Bool
  sh : Bool
  is : Bool
  ld : Int
  tl : Int
def finI (s : Rd) : Int × Rd :=
  if s.is = false ∨ s.tl < 0 then (0, { s with sh := true })
  else (wU ((tk (64 - s.ld - s.tl).toNat s.r s.sh).1 * 2 ^ s.tl.toNat), { s with r := (tk (64 - s.ld - s.tl).toNat s.r s.sh).2.1, sh := (tk (64 - s.ld - s.tl).toNat s.r s.sh).2.2 })
def opnI (r : List Bool) (sh : Bool) : Rd :=
  { r := (tk 6 (tk 6 r sh).2.1 (tk 6 r sh).2.2).2.1, sh := (tk 6 (tk 6 r sh).2.1 (tk 6 r sh).2.2).2.2, is := true, ld := (tk 6 r sh).1, tl := 64 - (tk 6 r sh).1 - ((tk 6 (tk 6 r sh).2.1 (tk 6 r sh).2.2).1 + 1) }
def tnI (s : Rd) : Int × Rd :=
  if (tk 1 s.r s.sh).1 = 0 then (0, { s with r := (tk 1 s.r s.sh).2.1, sh := (tk 1 s.r s.sh).2.2 })
  else if (tk 1 (tk 1 s.r s.sh).2.1 (tk 1 s.r s.sh).2.2).1 = 1 then finI (opnI (tk 1 (tk 1 s.r s.sh).2.1 (tk 1 s.r s.sh).2.2).2.1 (tk 1 (tk 1 s.r s.sh).2.1 (tk 1 s.r s.sh).2.2).2.2)
  else finI { s with r := (tk 1 (tk 1 s.r s.sh).2.1 (tk 1 s.r s.sh).2.2).2.1, sh := (tk 1 (tk 1 s.r s.sh).2.1 (tk 1 s.r s.sh).2.2).2.2 }
def gxI : Nat → Bool → Int → List Int → Rd → List Int × Bool
  | 0, _, _, out, s => (out, s.sh)
  | f + 1, first, last, out, s => if s.sh then (out, s.sh) else if first then gxI f false (tk 64 s.r s.sh).1 (out ++ [(tk 64 s.r s.sh).1]) { s with r := (tk 64 s.r s.sh).2.1, sh := (tk 64 s.r s.sh).2.2 }
    else gxI f false (xorI last (tnI s).1) (out ++ [xorI last (tnI s).1]) (tnI s).2
def unxI (s : List Bool) : List Int × Bool := gxI (tk 16 s false).1.toNat true 0 [] { r := (tk 16 s false).2.1, sh := (tk 16 s false).2.2, is := false, ld := 0, tl := 0 }

def tkX (n : Nat) (s : List Bool) (bad : Bool) : List Bool × List Bool × Bool := if s.length < n then ([false], s, true) else (s.take n, s.drop n, bad)
/-- What the reference's reading stands at. -/
structure Rx where
  s : List Bool
  bad : Bool
  ld : Int
  sz : Int
def rtk (n : Nat) (x : Rx) : Rx := { x with s := (tkX n x.s x.bad).2.1, bad := (tkX n x.s x.bad).2.2 }
def rbt (n : Nat) (x : Rx) : List Bool := (tkX n x.s x.bad).1
/-- The window read anew, if so marked. -/
def opnR (x : Rx) : Rx := if rbt 1 x = [true] then { rtk 6 (rtk 6 (rtk 1 x)) with ld := valF 0 (rbt 6 (rtk 1 x)), sz := valF 0 (rbt 6 (rtk 6 (rtk 1 x))) + 1 } else rtk 1 x
def dbl (v : Int) : Nat → Int
  | 0 => v
  | k + 1 => wU (dbl v k * 2)
def okW (x : Rx) : Prop := 0 ≤ x.ld ∧ x.ld + x.sz ≤ 64
instance (x : Rx) : Decidable (okW x) := inferInstanceAs (Decidable (_ ∧ _))
def gxR : Nat → Nat → List Int → Rx → Option (List Int × Bool)
  | 0, _, out, x => some (out, x.bad)
  | f + 1, i, out, x => if x.bad then some (out, x.bad) else if i = 0 then gxR f 1 (out ++ [valF 0 (rbt 64 x)]) (rtk 64 x)
    else if rbt 1 x = [true] then (if okW (opnR (rtk 1 x)) then gxR f (i + 1) (out ++ [xorI (out.getD (i - 1) 0) (dbl (valF 0 (rbt (opnR (rtk 1 x)).sz.toNat (opnR (rtk 1 x)))) (64 - (opnR (rtk 1 x)).ld - (opnR (rtk 1 x)).sz).toNat)]) (rtk (opnR (rtk 1 x)).sz.toNat (opnR (rtk 1 x))) else none)
    else gxR f (i + 1) (out ++ [out.getD (i - 1) 0]) (rtk 1 x)
def unxR (s : List Bool) : Option (List Int × Bool) := gxR (valF 0 (rbt 16 { s := s, bad := false, ld := -1, sz := 0 })).toNat 0 [] (rtk 16 { s := s, bad := false, ld := -1, sz := 0 })

def U64 (z : Int) : Prop := 0 ≤ z ∧ z < 18446744073709551616
def AllU (l : List Int) : Prop := ∀ z ∈ l, U64 z
theorem xor_u {a b : Int} (ha : U64 a) (hb : U64 b) : U64 (xorI a b) := by
  obtain ⟨x, rfl⟩ := Int.eq_ofNat_of_zero_le ha.1
  obtain ⟨y, rfl⟩ := Int.eq_ofNat_of_zero_le hb.1
  unfold U64 at *
  have h1 : x < 2 ^ 64 := by have := ha.2; show x < 18446744073709551616; omega
  have h2 : y < 2 ^ 64 := by have := hb.2; show y < 18446744073709551616; omega
  unfold xorI
  rw [u64_xor_nat x y (by omega) (by omega)]
  have := Nat.xor_lt_two_pow h1 h2
  have e : (2 : Nat) ^ 64 = 18446744073709551616 := by decide
  omega
theorem xor_back {a b : Int} (ha : U64 a) (hb : U64 b) : xorI b (xorI a b) = a := by
  have h3 := xor_u ha hb
  obtain ⟨x, rfl⟩ := Int.eq_ofNat_of_zero_le ha.1
  obtain ⟨y, rfl⟩ := Int.eq_ofNat_of_zero_le hb.1
  unfold U64 at *
  unfold xorI at *
  have e1 := u64_xor_nat x y (by omega) (by omega)
  rw [e1] at h3 ⊢
  rw [u64_xor_nat y (x ^^^ y) (by omega) (by omega), Nat.xor_comm x y, ← Nat.xor_assoc, Nat.xor_self, Nat.zero_xor]
theorem xor_self_zero {a b : Int} (ha : U64 a) (hb : U64 b) (h : xorI a b = 0) : a = b := by
  have h1 := xor_back ha hb
  rw [h] at h1
  obtain ⟨y, rfl⟩ := Int.eq_ofNat_of_zero_le hb.1
  unfold U64 at hb
  unfold xorI at h1
  have e := u64_xor_nat y 0 (by omega) (by omega)
  rw [Nat.xor_zero] at e
  rw [← h1]
  exact e
/-- The bits that a turn adds, the window behind it. -/
def encX (ld tl T : Int) : List Bool :=
  if T = 0 then [false] else if 0 ≤ ld ∧ ld ≤ leadF T ∧ tl ≤ tailF T then [true, false] ++ midB T ld.toNat tl.toNat
  else [true, true] ++ signs (leadF T) 6 ++ signs (63 - leadF T - tailF T) 6 ++ midB T (leadF T) (tailF T)
def winX (ld tl T : Int) : Int × Int :=
  if T = 0 then (ld, tl) else if 0 ≤ ld ∧ ld ≤ leadF T ∧ tl ≤ tailF T then (ld, tl) else ((leadF T : Int), (tailF T : Int))
theorem putX_enc (s : List Bool) (ld tl T : Int) : putX s ld tl T = (s ++ encX ld tl T, winX ld tl T) := by
  unfold putX encX winX
  split
  · rfl
  · split
    · simp [List.append_assoc]
    · simp [List.append_assoc]
/-- What stands in the middle is the turn. -/
theorem mid_val {x : Nat} (hx : x ≠ 0) (hb : x < 18446744073709551616) {a b : Nat} (ha : a ≤ leadF (x : Int)) (hbt : b ≤ tailF (x : Int)) (hab : a + b ≤ 63) : ((x : Int) / 2 ^ b) % 2 ^ (64 - a - b) * 2 ^ b = x := by
  obtain ⟨m, hm, hk⟩ := Lib.ctzFrom_spec 64 x (by omega) hb
  have ht : tailF (x : Int) = Lib.ctzFrom 64 x := tail_ctz 64 x
  generalize Lib.ctzFrom 64 x = k at *
  have hl : IsLen x (x.log2 + 1) := by
    refine ⟨Nat.lt_log2_self, Or.inr ?_⟩
    exact Nat.log2_self_le hx
  have h64 : x.log2 + 1 ≤ 64 := by
    have := (Nat.log2_lt hx).2 (show x < 2 ^ 64 from hb)
    omega
  rw [lead_nat hl h64] at ha
  have hlt : x < 2 ^ (64 - a) := Nat.lt_of_lt_of_le hl.1 (Nat.pow_le_pow_right (by decide) (by omega))
  have hdiv : 2 ^ b ∣ x := by
    rw [hm]
    exact Nat.dvd_trans (Nat.pow_dvd_pow 2 (by omega)) (Nat.dvd_mul_right _ _)
  obtain ⟨y, rfl⟩ := hdiv
  have hp := Nat.two_pow_pos b
  have e1 : ((2 ^ b * y : Nat) : Int) / 2 ^ b = (y : Int) := by
    rw [two_pow_cast, ← Int.natCast_ediv, Nat.mul_div_cancel_left _ hp]
  rw [e1]
  have hy : y < 2 ^ (64 - a - b) := by
    have e : 2 ^ (64 - a) = 2 ^ b * 2 ^ (64 - a - b) := by rw [← Nat.pow_add]; congr 1; omega
    rw [e] at hlt
    exact Nat.lt_of_mul_lt_mul_left hlt
  rw [Int.emod_eq_of_lt (by omega) (by rw [two_pow_cast]; omega), two_pow_cast, ← Int.natCast_mul, Nat.mul_comm]
/-- The reader's window is the packer's. -/
def CorI (ld tl : Int) (is : Bool) (ld' tl' : Int) : Prop := (ld = -1 ∧ tl = -1 ∧ is = false) ∨ (0 ≤ ld ∧ 0 ≤ tl ∧ ld + tl ≤ 63 ∧ is = true ∧ ld' = ld ∧ tl' = tl)
theorem finI_mid {x : Nat} (hx : x ≠ 0) (hb : x < 18446744073709551616) {a b : Nat} (ha : a ≤ leadF (x : Int)) (hbt : b ≤ tailF (x : Int)) (hab : a + b ≤ 63) (rest : List Bool) (sh : Bool) :
    finI { r := midB (x : Int) a b ++ rest, sh := sh, is := true, ld := a, tl := b } = ((x : Int), { r := rest, sh := sh, is := true, ld := a, tl := b }) := by
  unfold finI
  have hn : ¬ ((true : Bool) = false ∨ (b : Int) < 0) := by simp
  have e1 : (64 - (a : Int) - (b : Int)).toNat = 64 - a - b := by omega
  simp only [if_neg hn, e1, Int.toNat_natCast]
  unfold midB
  rw [tk_signs, mid_val hx hb ha hbt hab, wU_eq]
  have : (x : Int) % 18446744073709551616 = x := by omega
  rw [this]
theorem tnI_enc {ld tl : Int} {T : Int} (hT : U64 T) (hw : winOk ld tl) {s : Rd} {rest : List Bool} (hc : CorI ld tl s.is s.ld s.tl) (hr : s.r = encX ld tl T ++ rest) :
    (tnI s).1 = T ∧ (tnI s).2.r = rest ∧ (tnI s).2.sh = s.sh ∧ CorI (winX ld tl T).1 (winX ld tl T).2 (tnI s).2.is (tnI s).2.ld (tnI s).2.tl := by
  obtain ⟨r, sh, is, ld', tl'⟩ := s
  simp only at hc hr
  subst hr
  unfold encX winX tnI
  by_cases h0 : T = 0
  · simp only [if_pos h0, List.cons_append, List.nil_append, tk_cons]
    have e : b2i false = 0 := rfl
    simp only [e, if_true]
    exact ⟨h0.symm, trivial, trivial, hc⟩
  · obtain ⟨x, rfl⟩ := Int.eq_ofNat_of_zero_le hT.1
    have hx : x ≠ 0 := fun h => h0 (by rw [h]; rfl)
    have hb : x < 18446744073709551616 := by have := hT.2; unfold U64 at hT; omega
    have e1 : ¬ b2i true = 0 := by decide
    simp only [if_neg h0]
    by_cases hre : 0 ≤ ld ∧ ld ≤ leadF (x : Int) ∧ tl ≤ tailF (x : Int)
    · simp only [if_pos hre, List.cons_append, List.nil_append, tk_cons]
      have e2 : ¬ b2i false = 1 := by decide
      simp only [if_neg e1, if_neg e2]
      rcases hc with ⟨h1, _⟩ | ⟨h1, h2, h3, h4, h5, h6⟩
      · omega
      · obtain ⟨a, rfl⟩ := Int.eq_ofNat_of_zero_le h1
        obtain ⟨b, rfl⟩ := Int.eq_ofNat_of_zero_le h2
        subst h4 h5 h6
        rw [Int.toNat_natCast, Int.toNat_natCast, finI_mid hx hb (by omega) (by omega) (by omega)]
        exact ⟨rfl, rfl, rfl, Or.inr ⟨by omega, by omega, h3, rfl, rfl, rfl⟩⟩
    · have hlt := lead_tail hx hb
      simp only [if_neg hre, List.cons_append, List.nil_append, List.append_assoc, tk_cons]
      have e2 : b2i true = 1 := rfl
      have e3 : ¬ (1 : Int) = 0 := by decide
      simp only [e2, if_neg e3, if_true]
      have eop : opnI (signs (leadF (x : Int)) 6 ++ (signs (63 - leadF (x : Int) - tailF (x : Int)) 6 ++ (midB (x : Int) (leadF (x : Int)) (tailF (x : Int)) ++ rest))) sh = { r := midB (x : Int) (leadF (x : Int)) (tailF (x : Int)) ++ rest, sh := sh, is := true, ld := (leadF (x : Int) : Int), tl := (tailF (x : Int) : Int) } := by
        unfold opnI
        rw [tk_signs]
        simp only
        rw [tk_signs]
        simp only
        have e4 : ((leadF (x : Int) : Int)) % 2 ^ 6 = leadF (x : Int) := by
          show ((leadF (x : Int) : Int)) % 64 = _
          omega
        have e5 : (63 - (leadF (x : Int) : Int) - (tailF (x : Int) : Int)) % 2 ^ 6 = 63 - leadF (x : Int) - tailF (x : Int) := by
          show (63 - (leadF (x : Int) : Int) - (tailF (x : Int) : Int)) % 64 = _
          omega
        rw [e4, e5]
        congr 1
        omega
      rw [eop, finI_mid hx hb (Nat.le_refl _) (Nat.le_refl _) hlt]
      exact ⟨rfl, rfl, rfl, Or.inr ⟨by omega, by omega, by omega, rfl, rfl, rfl⟩⟩
/-- What the k-th measure adds. -/
def turnX (l : List Int) (k : Nat) : Int := xorI (l.getD k 0) (l.getD (k - 1) 0)
def entX (l : List Int) (k : Nat) : List Bool := if k = 0 then signs (l.getD 0 0) 64 else encX (msTo l k).2.1 (msTo l k).2.2 (turnX l k)
def rsX (l : List Int) : Nat → Nat → List Bool
  | _, 0 => []
  | k, f + 1 => entX l k ++ rsX l (k + 1) f
theorem ms_ent (l : List Int) (k : Nat) : (msTo l (k + 1)).1 = (msTo l k).1 ++ entX l k := by
  cases k with
  | zero => rfl
  | succ k => rw [ms_next, putX_enc]; unfold entX turnX; rw [if_neg (by omega)]; rfl
theorem ms_win (l : List Int) {k : Nat} (hk : 1 ≤ k) : (msTo l (k + 1)).2 = winX (msTo l k).2.1 (msTo l k).2.2 (turnX l k) := by
  cases k with
  | zero => omega
  | succ k => rw [ms_next, putX_enc]; rfl
theorem ms_rs (l : List Int) : ∀ f k, (msTo l (k + f)).1 = (msTo l k).1 ++ rsX l k f
  | 0, k => by rw [rsX, List.append_nil]; rfl
  | f + 1, k => by
    rw [rsX, ← List.append_assoc, ← ms_ent, ← ms_rs l f (k + 1)]
    congr 2
    omega
theorem ms_all (l : List Int) : (msTo l l.length).1 = signs l.length 16 ++ rsX l 0 l.length := by
  have := ms_rs l l.length 0
  rwa [Nat.zero_add] at this
theorem allU_get {l : List Int} (h : AllU l) (k : Nat) : U64 (l.getD k 0) := by
  rw [List.getD_eq_getElem?_getD]
  cases hk : l[k]? with
  | none => unfold U64; simp
  | some z => exact h z (List.mem_of_getElem? hk)
theorem ms_winOk {l : List Int} (h : AllU l) : ∀ k, winOk (msTo l k).2.1 (msTo l k).2.2
  | 0 => Or.inl ⟨rfl, rfl⟩
  | 1 => Or.inl ⟨rfl, rfl⟩
  | k + 2 => by
    rw [ms_next]
    have hT := xor_u (allU_get h (k + 1)) (allU_get h k)
    exact putX_win (ms_winOk h (k + 1)) hT.1 hT.2
theorem gxI_rs {l : List Int} (h : AllU l) : ∀ f k (s : Rd), 1 ≤ k → k + f = l.length → s.r = rsX l k f → s.sh = false → CorI (msTo l k).2.1 (msTo l k).2.2 s.is s.ld s.tl → gxI f false (l.getD (k - 1) 0) (l.take k) s = (l, false)
  | 0, k, s, hk, hkf, _, hsh, _ => by
    rw [gxI, List.take_of_length_le (by omega), hsh]
  | f + 1, k, s, hk, hkf, hr, hsh, hc => by
    have hT : U64 (turnX l k) := xor_u (allU_get h k) (allU_get h (k - 1))
    have hr2 : s.r = encX (msTo l k).2.1 (msTo l k).2.2 (turnX l k) ++ rsX l (k + 1) f := by
      rw [hr, rsX]
      unfold entX
      rw [if_neg (by omega)]
    obtain ⟨e1, e2, e3, e4⟩ := tnI_enc hT (ms_winOk h k) hc hr2
    rw [gxI, hsh, if_neg (by simp), if_neg (by simp), e1]
    have hx : xorI (l.getD (k - 1) 0) (turnX l k) = l.getD k 0 := xor_back (allU_get h k) (allU_get h (k - 1))
    rw [show xorI (l.getD (k - 1) 0) (turnX l k) = l.getD k 0 from hx, take_more l (by omega)]
    refine gxI_rs h f (k + 1) (tnI s).2 (by omega) (by omega) e2 (by rw [e3, hsh]) ?_
    rw [ms_win l hk]
    exact e4
theorem unxI_ms {l : List Int} (h : AllU l) (hn : l.length ≤ 1000) : unxI (msTo l l.length).1 = (l, false) := by
  unfold unxI
  rw [ms_all, tk_signs]
  have e : ((l.length : Int) % 2 ^ 16).toNat = l.length := by
    show ((l.length : Int) % 65536).toNat = _
    omega
  show gxI ((l.length : Int) % 2 ^ 16).toNat true 0 [] { r := rsX l 0 l.length, sh := false, is := false, ld := 0, tl := 0 } = _
  rw [e]
  cases hl : l.length with
  | zero =>
    have : l = [] := List.eq_nil_of_length_eq_zero hl
    subst this
    rfl
  | succ m =>
    have h0 := allU_get h 0
    have hc : tk 64 (rsX l 0 (m + 1)) false = (l.getD 0 0, rsX l 1 m, false) := by
      rw [rsX]
      unfold entX
      rw [if_pos rfl, tk_signs]
      have : l.getD 0 0 % 2 ^ 64 = l.getD 0 0 := by
        show l.getD 0 0 % 18446744073709551616 = _
        unfold U64 at h0
        omega
      rw [this]
    rw [gxI, if_neg (by simp), if_pos rfl]
    simp only [hc]
    have h1 : ([] : List Int) ++ [l.getD 0 0] = l.take 1 := by
      have := take_more l (i := 0) (by omega)
      rwa [List.take_zero] at this
    rw [h1]
    exact gxI_rs h m 1 _ (by omega) (by omega) rfl rfl (Or.inl ⟨rfl, rfl, rfl⟩)

/-- The reference's window is the packer's. -/
def CorR (ld tl : Int) (ld' sz : Int) : Prop := (ld = -1 ∧ tl = -1 ∧ ld' = -1) ∨ (0 ≤ ld ∧ 0 ≤ tl ∧ ld + tl ≤ 63 ∧ ld' = ld ∧ sz = 64 - ld - tl)
theorem tkX_cons (b : Bool) (r : List Bool) (bad : Bool) : tkX 1 (b :: r) bad = ([b], r, bad) := by
  unfold tkX
  rw [if_neg (by simp)]
  simp
theorem tkX_signs (v : Int) (n : Nat) (r : List Bool) (bad : Bool) : tkX n (signs v n ++ r) bad = (signs v n, r, bad) := by
  unfold tkX
  have hl := signs_len v n
  rw [if_neg (by rw [List.length_append]; omega), List.take_left' hl, List.drop_left' hl]
theorem dbl_eq (v : Int) (h : 0 ≤ v) : ∀ k, v * 2 ^ k < 18446744073709551616 → dbl v k = v * 2 ^ k
  | 0, _ => by rw [dbl, Int.pow_zero, Int.mul_one]
  | k + 1, hk => by
    have hp := two_pow_pos k
    rw [Int.pow_succ, ← Int.mul_assoc] at hk ⊢
    have h0 : 0 ≤ v * 2 ^ k := Int.mul_nonneg h (Int.le_of_lt hp)
    rw [dbl, dbl_eq v h k (by omega), wU_eq]
    omega
theorem mid_dbl {x : Nat} (hx : x ≠ 0) (hb : x < 18446744073709551616) {a b : Nat} (ha : a ≤ leadF (x : Int)) (hbt : b ≤ tailF (x : Int)) (hab : a + b ≤ 63) : dbl (valF 0 (midB (x : Int) a b)) b = x := by
  unfold midB
  rw [val_signs]
  have h := mid_val hx hb ha hbt hab
  rw [dbl_eq _ (Int.emod_nonneg _ (Int.ne_of_gt (two_pow_pos _))) b (by rw [h]; omega), h]
theorem gxR_rs {l : List Int} (h : AllU l) : ∀ f k (x : Rx), 1 ≤ k → k + f = l.length → x.s = rsX l k f → x.bad = false → CorR (msTo l k).2.1 (msTo l k).2.2 x.ld x.sz → gxR f k (l.take k) x = some (l, false)
  | 0, k, x, hk, hkf, _, hb, _ => by
    rw [gxR, List.take_of_length_le (by omega), hb]
  | f + 1, k, x, hk, hkf, hr, hbad, hc => by
    have hT := xor_u (allU_get h k) (allU_get h (k - 1))
    have hbk : xorI (l.getD (k - 1) 0) (turnX l k) = l.getD k 0 := xor_back (allU_get h k) (allU_get h (k - 1))
    have hr2 : x.s = encX (msTo l k).2.1 (msTo l k).2.2 (turnX l k) ++ rsX l (k + 1) f := by
      rw [hr, rsX]
      unfold entX
      rw [if_neg (by omega)]
    have hnext := ms_win l hk
    have hgd : (l.take k).getD (k - 1) 0 = l.getD (k - 1) 0 := take_get l (by omega)
    obtain ⟨s, bad, ld', sz⟩ := x
    simp only at hr2 hbad hc
    subst hr2 hbad
    have hwk := ms_winOk h k
    generalize (msTo l k).2.1 = ld at *
    generalize (msTo l k).2.2 = tl at *
    rw [gxR, if_neg (by simp), if_neg (by omega), hgd]
    by_cases h0 : turnX l k = 0
    · have e0 : encX ld tl (turnX l k) = [false] := if_pos h0
      have ew : winX ld tl (turnX l k) = (ld, tl) := if_pos h0
      rw [e0]
      have hb1 : rbt 1 { s := [false] ++ rsX l (k + 1) f, bad := false, ld := ld', sz := sz } = [false] := by
        unfold rbt; simp only [List.cons_append, List.nil_append, tkX_cons]
      have hr1 : rtk 1 { s := [false] ++ rsX l (k + 1) f, bad := false, ld := ld', sz := sz } = { s := rsX l (k + 1) f, bad := false, ld := ld', sz := sz } := by
        unfold rtk; simp only [List.cons_append, List.nil_append, tkX_cons]
      rw [hb1, hr1, if_neg (by simp)]
      have he : l.getD (k - 1) 0 = l.getD k 0 := (xor_self_zero (allU_get h k) (allU_get h (k - 1)) h0).symm
      rw [he, take_more l (by omega)]
      exact gxR_rs h f (k + 1) _ (by omega) (by omega) rfl rfl (by rw [hnext, ew]; exact hc)
    · obtain ⟨x, hxT⟩ := Int.eq_ofNat_of_zero_le hT.1
      have hxT' : turnX l k = (x : Int) := hxT
      rw [hxT'] at h0 hbk hnext ⊢
      have hx : x ≠ 0 := fun h => h0 (by rw [h]; rfl)
      have hb : x < 18446744073709551616 := by have h2 := hT.2; rw [show xorI (l.getD k 0) (l.getD (k - 1) 0) = (x : Int) from hxT] at h2; omega
      by_cases hre : 0 ≤ ld ∧ ld ≤ leadF (x : Int) ∧ tl ≤ tailF (x : Int)
      · have e0 : encX ld tl (x : Int) = [true, false] ++ midB (x : Int) ld.toNat tl.toNat := by unfold encX; rw [if_neg h0, if_pos hre]
        have ew : winX ld tl (x : Int) = (ld, tl) := by unfold winX; rw [if_neg h0, if_pos hre]
        rw [e0]
        rcases hc with ⟨h1, _⟩ | ⟨h1, h2, h3, h4, h5⟩
        · omega
        · obtain ⟨a, rfl⟩ := Int.eq_ofNat_of_zero_le h1
          obtain ⟨b, rfl⟩ := Int.eq_ofNat_of_zero_le h2
          subst h4 h5
          rw [Int.toNat_natCast, Int.toNat_natCast]
          have hb1 : rbt 1 { s := [true, false] ++ midB (x : Int) a b ++ rsX l (k + 1) f, bad := false, ld := (a : Int), sz := 64 - (a : Int) - (b : Int) } = [true] := by
            unfold rbt; simp only [List.cons_append, List.nil_append, tkX_cons]
          have hr1 : rtk 1 { s := [true, false] ++ midB (x : Int) a b ++ rsX l (k + 1) f, bad := false, ld := (a : Int), sz := 64 - (a : Int) - (b : Int) } = { s := false :: (midB (x : Int) a b ++ rsX l (k + 1) f), bad := false, ld := (a : Int), sz := 64 - (a : Int) - (b : Int) } := by
            unfold rtk; simp only [List.cons_append, List.nil_append, tkX_cons]
          have ho : opnR { s := false :: (midB (x : Int) a b ++ rsX l (k + 1) f), bad := false, ld := (a : Int), sz := 64 - (a : Int) - (b : Int) } = { s := midB (x : Int) a b ++ rsX l (k + 1) f, bad := false, ld := (a : Int), sz := 64 - (a : Int) - (b : Int) } := by
            unfold opnR rbt rtk; simp only [tkX_cons]; rfl
          have hok : okW { s := midB (x : Int) a b ++ rsX l (k + 1) f, bad := false, ld := (a : Int), sz := 64 - (a : Int) - (b : Int) } := ⟨by simp only; omega, by simp only; omega⟩
          have esz : (64 - (a : Int) - (b : Int)).toNat = 64 - a - b := by omega
          have edb : (64 - (a : Int) - (64 - (a : Int) - (b : Int))).toNat = b := by omega
          have hbm : rbt (64 - a - b) { s := midB (x : Int) a b ++ rsX l (k + 1) f, bad := false, ld := (a : Int), sz := 64 - (a : Int) - (b : Int) } = midB (x : Int) a b := by
            unfold rbt midB; simp only [tkX_signs]
          have hrm : rtk (64 - a - b) { s := midB (x : Int) a b ++ rsX l (k + 1) f, bad := false, ld := (a : Int), sz := 64 - (a : Int) - (b : Int) } = { s := rsX l (k + 1) f, bad := false, ld := (a : Int), sz := 64 - (a : Int) - (b : Int) } := by
            unfold rtk midB; simp only [tkX_signs]
          rw [hb1, if_pos rfl, hr1, ho, if_pos hok]
          simp only [esz, edb]
          rw [hbm, hrm, mid_dbl hx hb (by omega) (by omega) (by omega), hbk, take_more l (by omega)]
          exact gxR_rs h f (k + 1) _ (by omega) (by omega) rfl rfl (by rw [hnext, ew]; exact Or.inr ⟨by simp only; omega, by simp only; omega, by simp only; omega, rfl, rfl⟩)
      · have hlt := lead_tail hx hb
        have e0 : encX ld tl (x : Int) = [true, true] ++ signs (leadF (x : Int)) 6 ++ signs (63 - leadF (x : Int) - tailF (x : Int)) 6 ++ midB (x : Int) (leadF (x : Int)) (tailF (x : Int)) := by unfold encX; rw [if_neg h0, if_neg hre]
        have ew : winX ld tl (x : Int) = ((leadF (x : Int) : Int), (tailF (x : Int) : Int)) := by unfold winX; rw [if_neg h0, if_neg hre]
        rw [e0]
        generalize hA : leadF (x : Int) = a at *
        generalize hB : tailF (x : Int) = b at *
        have hb1 : rbt 1 { s := [true, true] ++ signs (a : Int) 6 ++ signs (63 - (a : Int) - (b : Int)) 6 ++ midB (x : Int) a b ++ rsX l (k + 1) f, bad := false, ld := ld', sz := sz } = [true] := by
          unfold rbt; simp only [List.cons_append, List.nil_append, tkX_cons]
        have hr1 : rtk 1 { s := [true, true] ++ signs (a : Int) 6 ++ signs (63 - (a : Int) - (b : Int)) 6 ++ midB (x : Int) a b ++ rsX l (k + 1) f, bad := false, ld := ld', sz := sz } = { s := true :: (signs (a : Int) 6 ++ (signs (63 - (a : Int) - (b : Int)) 6 ++ (midB (x : Int) a b ++ rsX l (k + 1) f))), bad := false, ld := ld', sz := sz } := by
          unfold rtk; simp only [List.cons_append, List.nil_append, List.append_assoc, tkX_cons]
        have e4 : (a : Int) % 2 ^ 6 = a := by
          show (a : Int) % 64 = _
          omega
        have e5 : (63 - (a : Int) - (b : Int)) % 2 ^ 6 = 63 - a - b := by
          show (63 - (a : Int) - (b : Int)) % 64 = _
          omega
        have ho : opnR { s := true :: (signs (a : Int) 6 ++ (signs (63 - (a : Int) - (b : Int)) 6 ++ (midB (x : Int) a b ++ rsX l (k + 1) f))), bad := false, ld := ld', sz := sz } = { s := midB (x : Int) a b ++ rsX l (k + 1) f, bad := false, ld := (a : Int), sz := 63 - (a : Int) - (b : Int) + 1 } := by
          unfold opnR rbt rtk
          simp only [tkX_cons, tkX_signs, if_true]
          rw [val_signs, val_signs, e4, e5]
        have hok : okW { s := midB (x : Int) a b ++ rsX l (k + 1) f, bad := false, ld := (a : Int), sz := 63 - (a : Int) - (b : Int) + 1 } := ⟨by simp only; omega, by simp only; omega⟩
        have esz : (63 - (a : Int) - (b : Int) + 1).toNat = 64 - a - b := by omega
        have edb : (64 - (a : Int) - (63 - (a : Int) - (b : Int) + 1)).toNat = b := by omega
        have hbm : rbt (64 - a - b) { s := midB (x : Int) a b ++ rsX l (k + 1) f, bad := false, ld := (a : Int), sz := 63 - (a : Int) - (b : Int) + 1 } = midB (x : Int) a b := by
          unfold rbt midB; simp only [tkX_signs]
        have hrm : rtk (64 - a - b) { s := midB (x : Int) a b ++ rsX l (k + 1) f, bad := false, ld := (a : Int), sz := 63 - (a : Int) - (b : Int) + 1 } = { s := rsX l (k + 1) f, bad := false, ld := (a : Int), sz := 63 - (a : Int) - (b : Int) + 1 } := by
          unfold rtk midB; simp only [tkX_signs]
        rw [hb1, if_pos rfl, hr1, ho, if_pos hok]
        simp only [esz, edb]
        rw [hbm, hrm, mid_dbl hx hb (by omega) (by omega) (by omega), hbk, take_more l (by omega)]
        exact gxR_rs h f (k + 1) _ (by omega) (by omega) rfl rfl (by rw [hnext, ew]; exact Or.inr ⟨by simp only; omega, by simp only; omega, by simp only; omega, rfl, by simp only; omega⟩)
theorem unxR_ms {l : List Int} (h : AllU l) (hn : l.length ≤ 1000) : unxR (msTo l l.length).1 = some (l, false) := by
  unfold unxR
  rw [ms_all]
  have hb1 : rbt 16 { s := signs (l.length : Int) 16 ++ rsX l 0 l.length, bad := false, ld := -1, sz := 0 } = signs (l.length : Int) 16 := by unfold rbt; simp only [tkX_signs]
  have hr1 : rtk 16 { s := signs (l.length : Int) 16 ++ rsX l 0 l.length, bad := false, ld := -1, sz := 0 } = { s := rsX l 0 l.length, bad := false, ld := -1, sz := 0 } := by unfold rtk; simp only [tkX_signs]
  rw [hb1, hr1, val_signs]
  have e : ((l.length : Int) % 2 ^ 16).toNat = l.length := by
    show ((l.length : Int) % 65536).toNat = _
    omega
  rw [e]
  cases hl : l.length with
  | zero =>
    have : l = [] := List.eq_nil_of_length_eq_zero hl
    subst this
    rfl
  | succ m =>
    have h0 := allU_get h 0
    have hs : rsX l 0 (m + 1) = signs (l.getD 0 0) 64 ++ rsX l 1 m := by rw [rsX]; unfold entX; rw [if_pos rfl]
    rw [hs]
    have hb2 : rbt 64 { s := signs (l.getD 0 0) 64 ++ rsX l 1 m, bad := false, ld := -1, sz := 0 } = signs (l.getD 0 0) 64 := by unfold rbt; simp only [tkX_signs]
    have hr2 : rtk 64 { s := signs (l.getD 0 0) 64 ++ rsX l 1 m, bad := false, ld := -1, sz := 0 } = { s := rsX l 1 m, bad := false, ld := -1, sz := 0 } := by unfold rtk; simp only [tkX_signs]
    have ev : valF 0 (signs (l.getD 0 0) 64) = l.getD 0 0 := by
      rw [val_signs]
      show l.getD 0 0 % 18446744073709551616 = _
      unfold U64 at h0
      omega
    rw [gxR, if_neg (by simp), if_pos rfl, hb2, hr2, ev]
    have h1 : ([] : List Int) ++ [l.getD 0 0] = l.take 1 := by
      have := take_more l (i := 0) (by omega)
      rwa [List.take_zero] at this
    rw [h1]
    exact gxR_rs h m 1 _ (by omega) (by omega) rfl rfl (Or.inl ⟨rfl, rfl, rfl⟩)
theorem allU_snoc {l : List Int} (h : AllU l) {c : Int} (hc : U64 c) : AllU (l ++ [c]) := by
  intro z hz
  rcases List.mem_append.1 hz with h1 | h1
  · exact h z h1
  · rw [List.mem_singleton.1 h1]; exact hc
theorem pow64 {n : Nat} (h : n ≤ 64) : (2 : Int) ^ n ≤ 18446744073709551616 := by
  rw [two_pow_cast]
  have h1 : 2 ^ n ≤ 2 ^ 64 := Nat.pow_le_pow_right (by decide) h
  have h2 : 2 ^ 64 = 18446744073709551616 := by decide
  omega
theorem tk_u (r : List Bool) (sh : Bool) : U64 (tk 64 r sh).1 := by
  unfold tk U64
  split
  · have h := valF_bd (r.take 64)
    have h2 := pow64 (show (r.take 64).length ≤ 64 by simp; omega)
    simp only
    omega
  · simp
theorem wU_u (z : Int) : U64 (wU z) := wU_bd z
theorem finI_u (s : Rd) : U64 (finI s).1 := by
  unfold finI
  split
  · unfold U64; simp
  · exact wU_u _
theorem tnI_u (s : Rd) : U64 (tnI s).1 := by
  unfold tnI
  split
  · unfold U64; simp
  · split
    · exact finI_u _
    · exact finI_u _
theorem gxI_all : ∀ f first last out s, AllU out → U64 last → AllU (gxI f first last out s).1
  | 0, _, _, out, _, h, _ => h
  | f + 1, first, last, out, s, h, hl => by
    rw [gxI]
    split
    · exact h
    · split
      · exact gxI_all f _ _ _ _ (allU_snoc h (tk_u _ _)) (tk_u _ _)
      · exact gxI_all f _ _ _ _ (allU_snoc h (xor_u hl (tnI_u s))) (xor_u hl (tnI_u s))
theorem unxI_all (s : List Bool) : AllU (unxI s).1 := gxI_all _ _ _ _ _ (fun z hz => by simp at hz) (by unfold U64; simp)
theorem rbt_u {n : Nat} (hn : n ≤ 64) (x : Rx) : U64 (valF 0 (rbt n x)) := by
  have h := valF_bd (rbt n x)
  have hl : (rbt n x).length ≤ 64 := by
    unfold rbt tkX
    split
    · simp
    · simp; omega
  have h2 := pow64 hl
  unfold U64
  omega
theorem dbl_u {v : Int} (hv : U64 v) : ∀ k, U64 (dbl v k)
  | 0 => hv
  | k + 1 => by rw [dbl]; exact wU_u _
theorem gxR_all : ∀ f i out x o b, AllU out → gxR f i out x = some (o, b) → AllU o
  | 0, _, out, x, o, b, h, he => by
    rw [gxR] at he
    have h2 : out = o := congrArg Prod.fst (Option.some.inj he)
    rw [← h2]; exact h
  | f + 1, i, out, x, o, b, h, he => by
    rw [gxR] at he
    split at he
    · have h2 : out = o := congrArg Prod.fst (Option.some.inj he)
      rw [← h2]; exact h
    · split at he
      · exact gxR_all f _ _ _ _ _ (allU_snoc h (rbt_u (by decide) x)) he
      · split at he
        · split at he
          · rename_i hok
            refine gxR_all f _ _ _ _ _ (allU_snoc h (xor_u (allU_get h _) (dbl_u (rbt_u ?_ _) _))) he
            obtain ⟨h1, h2⟩ := hok
            omega
          · simp at he
        · exact gxR_all f _ _ _ _ _ (allU_snoc h (allU_get h _)) he
theorem unxR_all {s : List Bool} {o : List Int} {b : Bool} (h : unxR s = some (o, b)) : AllU o := gxR_all _ _ _ _ _ _ (fun z hz => by simp at hz) h
def okXI (s : List Bool) : Prop := (unxI s).2 = false ∧ (unxI s).1.length ≤ 1000 ∧ (msTo (unxI s).1 (unxI s).1.length).1 = s
instance (s : List Bool) : Decidable (okXI s) := inferInstanceAs (Decidable (_ ∧ _))
theorem okXI_R {s : List Bool} (h : okXI s) : unxR s = some ((unxI s).1, false) := by
  obtain ⟨h1, h2, h3⟩ := h
  have h4 := unxR_ms (unxI_all s) h2
  rwa [h3] at h4
theorem okXR_I {s : List Bool} {o : List Int} (h : unxR s = some (o, false)) (h2 : o.length ≤ 1000) (h3 : (msTo o o.length).1 = s) : okXI s ∧ (unxI s).1 = o := by
  have h4 := unxI_ms (unxR_all h) h2
  rw [h3] at h4
  exact ⟨⟨by rw [h4], by rw [h4]; exact h2, by rw [h4]; exact h3⟩, by rw [h4]⟩
end Go.Gh
