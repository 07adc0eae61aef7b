/-
  The ring: slices.BinarySearchFunc of places.
-/
import Derived.Test.YtcljeedmiobepaaRn4
import Derived.Test.YtcljeedmiobepaaRn8
import Derived.Deep.QuietTactic
import Derived.BigQuiet
import Derived.Laws.Cover1
import Derived.IntWalk
namespace Go.Proofs.Ytcljeedmiobepaa.Rng
open Go.RowKit Go.Gh Go.Proofs.Ytcljeedmiobepaa.Nod
set_option linter.unusedVariables false
/-- A place in a row. -/
def PlR (w : World) (x : Pl) (c : List Value) : Prop := c = encP x
theorem plR_mono : Mono PlR := fun w w' a c h hb => h
theorem pc_enc (l : List Pl) : pc (l.map fun x => (x, encP x)) = encL l := by
  unfold pc encL
  rw [List.flatMap_map]
theorem sp_own {w : World} {B : Nat} {v : Value} {l : List Pl} (h : w.ownsRow B 186 2 v l.length (encL l)) : Sp PlR 2 w v l :=
  ⟨l.map fun x => (x, encP x), by rw [List.map_map]; exact List.map_id l, fun p hp => by obtain ⟨x, -, rfl⟩ := List.mem_map.1 hp; rfl, fun p hp => by obtain ⟨x, -, rfl⟩ := List.mem_map.1 hp; rfl, by rw [pc_enc]; exact own_sl h⟩
/-- The places in order of their tokens. -/
def UpP (l : List Pl) : Prop := l.Pairwise fun x y => x.t ≤ y.t
theorem up_le {l : List Pl} (h : UpP l) {i j : Nat} {x y : Pl} (hij : i < j) (hx : l[i]? = some x) (hy : l[j]? = some y) : x.t ≤ y.t := by
  obtain ⟨h1, e1⟩ := List.getElem?_eq_some_iff.1 hx
  obtain ⟨h2, e2⟩ := List.getElem?_eq_some_iff.1 hy
  have := List.pairwise_iff_getElem.1 h i j h1 h2 hij
  rw [e1, e2] at this
  exact this
def BPost (l : List Pl) (at' : Int) (w : World) (e : Ending) (w' : World) : Prop := ∃ (i : Nat) (b : Bool), e = .returned (.tuple #[.int .i64 i, .bool b]) ∧ i ≤ l.length ∧ (∀ (j : Nat) (x : Pl), j < i → l[j]? = some x → x.t < at') ∧ (∀ (j : Nat) (x : Pl), i ≤ j → l[j]? = some x → ¬ x.t < at') ∧ Below w.heap.size w w'
set_option maxHeartbeats 4000000 in
set_option maxRecDepth 100000 in
theorem bsp_any (v : Value) (at' : Int) (L : List Pl) (w : World) (hs : Sp PlR 2 w v L) (hr : UpP L) (hn : L.length ≤ 1000000) :
    Calls Try.prog 124 #[v, .int .u64 at', .func (.func 125) #[] #[]] w (BPost L at' w) := by
  obtain ⟨ao, c, rfl, hnc, hc⟩ := hs.shape
  obtain ⟨n, hm⟩ : ∃ m, L.length = m := ⟨_, rfl⟩
  rw [hm] at hs hnc hn ⊢
  have HM := Lib.hid hm
  have HS := Lib.hid hs
  have HR := Lib.hid hr
  clear hm hs hr
  go_enter Try.func124, Try.ntmps124
  go_wp2_with fail
  go_loopg [9, 10] n (fun kx s5 s6 wr => ∃ (lo hi : Nat), s5 = .int .i64 lo ∧ s6 = .int .i64 hi ∧ lo ≤ hi ∧ hi ≤ n ∧ hi - lo ≤ kx ∧ Below w.heap.size w wr ∧
    Hid ((∀ (j : Nat) (x : Pl), j < lo → L[j]? = some x → x.t < at') ∧ (∀ (j : Nat) (x : Pl), hi ≤ j → L[j]? = some x → at' ≤ x.t)))
  case atStart => exact ⟨0, n, rfl, rfl, Nat.zero_le _, Nat.le_refl _, by omega, Below.refl _ _, Lib.hid ⟨fun j x hj => absurd hj (Nat.not_lt_zero _), fun j x h1 h2 => by have := (List.getElem?_eq_some_iff.1 h2).1; have := HM.out; omega⟩⟩
  case round =>
    obtain ⟨lo, hi, rfl, rfl, hlh, hin, hg, hbr, I⟩ := hrel
    by_cases hlt : lo < hi
    · obtain ⟨x, hx⟩ : ∃ x, L[(lo + hi) / 2]? = some x := ⟨_, List.getElem?_eq_getElem (by rw [HM.out]; omega)⟩
      obtain ⟨b, off, cs, rfl, rfl, _, hck⟩ := (HS.out.below plR_mono hbr).get hx
      have c0 := hck 0 _ rfl
      have c1 := hck 1 _ rfl
      rw [Nat.add_zero] at c0
      obtain ⟨M, hM⟩ : ∃ M, (lo + hi) / 2 = M := ⟨_, rfl⟩
      have hMi : ((lo : Int) + (hi : Int)) / 2 = (M : Int) := by omega
      rw [hM] at hx c0 c1
      have HX := Lib.hid hx
      clear hck hx
      by_cases hlk : x.t < at'
      · go_wp2_with fail
        refine (ownlit_any x at' _).mono ?_
        rw [if_pos hlk]
        rintro e w' ⟨rfl, hb'⟩
        go_wp2_with fail
        go_roundg (hi - (M + 1))
        case measure => omega
        case rel =>
          have I2 : Hid ((∀ (j : Nat) (y : Pl), j < M + 1 → L[j]? = some y → y.t < at') ∧ (∀ (j : Nat) (y : Pl), hi ≤ j → L[j]? = some y → at' ≤ y.t)) := Lib.hid ⟨fun j y hj hy => (by
            rcases Nat.lt_or_ge j M with h | h
            · have := up_le HR.out h hy HX.out
              omega
            · obtain rfl : j = M := by omega
              have := HX.out
              rw [this] at hy
              obtain rfl := Option.some.inj hy
              exact hlk), I.out.2⟩
          exact ⟨M + 1, hi, by go_num, rfl, by omega, hin, Nat.le_refl _, hbr.trans (hb'.mono hbr.size), I2⟩
      · go_wp2_with fail
        refine (ownlit_any x at' _).mono ?_
        rw [if_neg (by omega)]
        rintro e w' ⟨rfl, hb'⟩
        go_wp2_with fail
        go_roundg (M - lo)
        case measure => omega
        case rel =>
          have I2 : Hid ((∀ (j : Nat) (y : Pl), j < lo → L[j]? = some y → y.t < at') ∧ (∀ (j : Nat) (y : Pl), M ≤ j → L[j]? = some y → at' ≤ y.t)) := Lib.hid ⟨I.out.1, fun j y hj hy => (by
            rcases Nat.lt_or_ge M j with h | h
            · have := up_le HR.out h HX.out hy
              omega
            · obtain rfl : j = M := by omega
              have := HX.out
              rw [this] at hy
              obtain rfl := Option.some.inj hy
              omega)⟩
          exact ⟨lo, M, rfl, by go_num, by omega, by omega, Nat.le_refl _, hbr.trans (hb'.mono hbr.size), I2⟩
    · obtain rfl : hi = lo := by omega
      by_cases hend : hi < n
      · obtain ⟨x, hx⟩ : ∃ x, L[hi]? = some x := ⟨_, List.getElem?_eq_getElem (by rw [HM.out]; exact hend)⟩
        obtain ⟨b, off, cs, rfl, rfl, _, hck⟩ := (HS.out.below plR_mono hbr).get hx
        have c0 := hck 0 _ rfl
        have c1 := hck 1 _ rfl
        rw [Nat.add_zero] at c0
        have hnl := I.out.2 hi x (Nat.le_refl _) hx
        clear hck hx
        go_wp2_with fail
        refine (ownlit_any x at' _).mono ?_
        rw [if_neg (by omega)]
        rintro e w' ⟨rfl, hb'⟩
        go_wp2_with fail
        go_ret2
        exact ⟨hi, _, rfl, by rw [HM.out]; exact hin, I.out.1, fun j x h1 h2 => by have := I.out.2 j x h1 h2; omega, hbr.trans (hb'.mono hbr.size)⟩
      · go_wp2_with fail
        go_ret2
        exact ⟨hi, _, rfl, by rw [HM.out]; exact hin, I.out.1, fun j x h1 h2 => by have := I.out.2 j x h1 h2; omega, hbr⟩
end Go.Proofs.Ytcljeedmiobepaa.Rng
/-
  The ring: rows of strings: slices.Equal.
-/
namespace Go.Proofs.Ytcljeedmiobepaa.Rng
open Go.RowKit Go.Gh Go.Proofs.Ytcljeedmiobepaa.Nod
set_option linter.unusedVariables false
theorem drew_add (w : World) (a b : Nat) : (w.drewN a).drewN b = w.drewN (a + b) := by
  induction b with
  | zero => rfl
  | succ b ih => show ((w.drewN a).drewN b).drew = _; rw [ih]; rfl
/-- A slice reads as strings. -/
def Ss (w : World) (v : Value) (l : List ByteArray) : Prop := Sl w 1 v l.length (l.map Value.string)
theorem Ss.below {w w' : World} {v : Value} {l : List ByteArray} (h : Ss w v l) (hb : Below w.heap.size w w') : Ss w' v l := Sl.below h hb
theorem Ss.at {w : World} {ao : Option Addr} {n c i : Nat} {l : List ByteArray} {z : ByteArray} (h : Ss w (.slice ao n c) l) (hz : l[i]? = some z) : ∃ b off, ao = some ⟨b, off, none⟩ ∧ w.cell? ⟨b, off + i, none⟩ = some (.string z) := by
  obtain ⟨ao', cap, e, h2, h3, h4, h5, h6⟩ := h
  simp at e
  obtain ⟨rfl, rfl, rfl⟩ := e
  obtain ⟨b, off, rfl, hc⟩ := h6 (by have := (List.getElem?_eq_some_iff.1 hz).1; omega)
  exact ⟨b, off, rfl, hc i _ (by rw [List.getElem?_map, hz]; rfl)⟩
set_option maxRecDepth 100000 in
theorem equalS_any (v u : Value) (l : List ByteArray) (w : World) (hs : Ss w v l) (ht : Ss w u l) :
    Calls Try.prog 65 #[v, u] w fun e w' => e = .returned (.bool true) ∧ ∃ q, w' = w.drewN q := by
  obtain ⟨ao, c, rfl, hnc, hc, -⟩ := Sl.shape hs
  obtain ⟨bo, d, rfl, hod, hd, -⟩ := Sl.shape ht
  obtain ⟨n, hm⟩ : ∃ n, l.length = n := ⟨_, rfl⟩
  rw [hm] at hs ht hnc hod
  have HS := Lib.hid hs
  have HT := Lib.hid ht
  have HM := Lib.hid hm
  rw [hm]
  clear hs ht hm
  go_enter Try.func65, Try.ntmps65
  go_wp2_with fail
  go_loopw [5, 13] (fun _ i wr => ∃ k : Nat, k ≤ n ∧ i = .int .i64 k ∧ ∃ q, wr = w.drewN q) (fun _ i _ => n - (intOf i).toNat)
  case atStart => exact ⟨0, by omega, rfl, 0, rfl⟩
  case round =>
    obtain ⟨k, hk, rfl, q, hq⟩ := hrel
    have hbr : Below w.heap.size w wr := by rw [hq]; exact below_drewN (Below.refl _ _) _
    have HQ := Lib.hid hq
    clear hq
    by_cases hlt : k < n
    · obtain ⟨z, hz⟩ : ∃ z, l[k]? = some z := ⟨_, List.getElem?_eq_getElem (by rw [HM.out]; exact hlt)⟩
      obtain ⟨b, off, rfl, hc1⟩ := (HS.out.below hbr).at hz
      obtain ⟨b', off', rfl, hc2⟩ := (HT.out.below hbr).at hz
      have hzz : (z.toList == z.toList) = true := by simp
      have hzn : (z.toList != z.toList) = false := by simp
      clear hz
      go_wp2_with fail
      go_quiet (fail)
      go_wp2
      go_roundw
      case rel => exact ⟨k + 1, by omega, by go_num, q + nq, by rw [HQ.out]; exact drew_add _ _ _⟩
      case measure => simp [intOf]; omega
    · have hkn : k = n := by omega
      subst hkn
      go_wp2_with fail
      go_ret
      exact ⟨rfl, q, HQ.out⟩
end Go.Proofs.Ytcljeedmiobepaa.Rng
/-
  The ring: rows of strings: slices.Contains.
-/
namespace Go.Proofs.Ytcljeedmiobepaa.Rng
open Go.RowKit Go.Gh Go.Proofs.Ytcljeedmiobepaa.Nod
set_option linter.unusedVariables false
def CPost (l : List ByteArray) (nm : ByteArray) (w : World) (e : Ending) (w' : World) : Prop := ∃ r : Int, e = .returned (.int .i64 r) ∧ ((r = -1 ∧ ∀ x ∈ l, ¬ x.toList = nm.toList) ∨ (0 ≤ r ∧ ∃ x ∈ l, x.toList = nm.toList)) ∧ ∃ q, w' = w.drewN q
set_option maxRecDepth 100000 in
theorem indexS_any (v : Value) (l : List ByteArray) (nm : ByteArray) (w : World) (hs : Ss w v l) : Calls Try.prog 172 #[v, .string nm] w (CPost l nm w) := by
  obtain ⟨ao, c, rfl, hnc, hc, -⟩ := Sl.shape hs
  obtain ⟨n, hm⟩ : ∃ n, l.length = n := ⟨_, rfl⟩
  rw [hm] at hs hnc
  have HS := Lib.hid hs
  have HM := Lib.hid hm
  rw [hm]
  clear hs hm
  go_enter Try.func172, Try.ntmps172
  go_wp2_with fail
  go_loopw [4, 8] (fun _ i wr => ∃ k : Nat, k ≤ n ∧ i = .int .i64 k ∧ Hid (∀ x ∈ l.take k, ¬ x.toList = nm.toList) ∧ ∃ q, wr = w.drewN q) (fun _ i _ => n - (intOf i).toNat)
  case atStart => exact ⟨0, by omega, rfl, Lib.hid (fun x hx => by simp at hx), 0, rfl⟩
  case round =>
    obtain ⟨k, hk, rfl, HT, q, hq⟩ := hrel
    have hbr : Below w.heap.size w wr := by rw [hq]; exact below_drewN (Below.refl _ _) _
    have HQ := Lib.hid hq
    clear hq
    by_cases hlt : k < n
    · obtain ⟨z, hz⟩ : ∃ z, l[k]? = some z := ⟨_, List.getElem?_eq_getElem (by rw [HM.out]; exact hlt)⟩
      obtain ⟨b, off, rfl, hc1⟩ := (HS.out.below hbr).at hz
      have HZ := Lib.hid hz
      clear hz
      by_cases he : nm.toList = z.toList
      · have t1 : (nm.toList == z.toList) = true := beq_iff_eq.2 he
        go_wp2_with fail
        try go_quiet (fail)
        try go_wp2
        go_ret
        exact ⟨_, rfl, Or.inr ⟨by omega, z, List.mem_of_getElem? HZ.out, he.symm⟩, by first | exact ⟨q, HQ.out⟩ | exact ⟨q + nq, by rw [HQ.out]; exact drew_add _ _ _⟩⟩
      · have t1 : (nm.toList == z.toList) = false := by rw [beq_eq_false_iff_ne]; exact he
        have HT2 : Hid (∀ y ∈ l.take (k + 1), ¬ y.toList = nm.toList) := Lib.hid (fun y hy => by
          obtain ⟨h1, h2⟩ := List.getElem?_eq_some_iff.1 HZ.out
          rw [List.take_succ_eq_append_getElem h1, h2] at hy
          rcases List.mem_append.1 hy with hy | hy
          · exact HT.out y hy
          · have : y = z := by simpa using hy
            rw [this]; exact fun h => he h.symm)
        go_wp2_with fail
        try go_quiet (fail)
        try go_wp2
        go_roundw
        case rel => exact ⟨k + 1, by omega, by go_num, HT2, by first | exact ⟨q, HQ.out⟩ | exact ⟨q + nq, by rw [HQ.out]; exact drew_add _ _ _⟩⟩
        case measure => simp [intOf]; omega
    · obtain rfl : k = n := by omega
      go_wp2_with fail
      go_ret
      refine ⟨_, rfl, Or.inl ⟨rfl, fun x hx => HT.out x ?_⟩, q, HQ.out⟩
      rw [List.take_of_length_le (Nat.le_of_eq HM.out)]
      exact hx
/-- Is the string among them? -/
def hasS (l : List ByteArray) (nm : ByteArray) : Bool := l.any fun x => x.toList == nm.toList
theorem containsS_any (v : Value) (l : List ByteArray) (nm : ByteArray) (w : World) (hs : Ss w v l) : Calls Try.prog 126 #[v, .string nm] w fun e w' => e = .returned (.bool (hasS l nm)) ∧ ∃ q, w' = w.drewN q := by
  have HC := Lib.hid (indexS_any v l nm w hs)
  obtain ⟨ao, c, rfl, -, -, -⟩ := Sl.shape hs
  obtain ⟨F, hF⟩ : ∃ F, hasS l nm = F := ⟨_, rfl⟩
  have HF := Lib.hid hF
  rw [hF]
  obtain ⟨n, hn⟩ : ∃ n, l.length = n := ⟨_, rfl⟩
  rw [hn] at HC
  rw [hn]
  clear hs hF hn
  go_enter Try.func126, Try.ntmps126
  go_wp2_with fail
  refine HC.out.mono ?_
  rintro e w2 ⟨r, rfl, hr, q, hq⟩
  have HQ := Lib.hid hq
  clear hq
  rcases hr with ⟨rfl, hno⟩ | ⟨h0, x, hx, he⟩
  · have h1 : F = false := by rw [← HF.out]; exact List.any_eq_false.2 fun x hx h => hno x hx (beq_iff_eq.1 h)
    subst h1
    clear hno
    go_wp2_with fail
    go_ret
    exact ⟨rfl, q, HQ.out⟩
  · have h1 : F = true := by rw [← HF.out]; exact List.any_eq_true.2 ⟨x, hx, beq_iff_eq.2 he⟩
    subst h1
    have h2 : decide (r ≥ 0) = true := decide_eq_true h0
    clear hx he
    go_wp2_with fail
    go_ret
    exact ⟨by simp, q, HQ.out⟩
end Go.Proofs.Ytcljeedmiobepaa.Rng
/-
  The walk of ring.Check.
-/
namespace Go.Proofs.Ytcljeedmiobepaa.Nod
open Go.RowKit Go.Gh
set_option linter.unusedVariables false
set_option maxHeartbeats 4000000 in
set_option maxRecDepth 100000 in
theorem check_any (v : Value) (L : List Nd) (w : World) (hs : Sp NdR 2 w v L) : Calls Try.prog 64 #[v] w fun e w' => e = .returned (.int .i64 (nodesF L)) ∧ Below w.heap.size w w' := by
  obtain ⟨ao, c, rfl, hnc, hc⟩ := hs.shape
  obtain ⟨n, hn⟩ : ∃ n, n = L.length := ⟨_, rfl⟩
  rw [← hn] at hs hnc ⊢
  have HN := Lib.hid hn
  obtain ⟨F, hF⟩ : ∃ F, nodesF L = F := ⟨_, rfl⟩
  rw [hF]
  have HS := Lib.hid hs
  by_cases hbig : 20 < n
  · have hF2 : F = 2 := by rw [← hF]; exact if_pos (by omega)
    clear hn hF hs
    subst hF2
    go_enter Try.func64, Try.ntmps64
    go_wp2_with fail
    go_ret
    exact ⟨rfl, Below.refl _ _⟩
  have HG : Hid (F = goN none L) := Lib.hid (by rw [← hF]; exact if_neg (by omega))
  clear hn hF hs
  go_enter Try.func64, Try.ntmps64
  go_wp2_with fail
  go_loopw [2, 3, 12] (fun r s i wr => ∃ (k : Nat) (p : Option Nd) (t : ByteArray), k ≤ n ∧ i = .int .i64 k ∧ r = .int .i64 0 ∧ s = .string t ∧ Hid (t.size ≤ 20 ∧ keyS t = pk p) ∧ Hid (F = goN p (L.drop k)) ∧ Below w.heap.size w wr) (fun _ _ i _ => n - (intOf i).toNat)
  case atStart => exact ⟨0, none, ⟨#[]⟩, Nat.zero_le _, rfl, rfl, rfl, Lib.hid ⟨by decide, key_empty⟩, HG, Below.refl _ _⟩
  case round =>
    obtain ⟨k, p, t, hk, rfl, rfl, rfl, HT, HF, hbr⟩ := hrel
    by_cases hlt : k < n
    case neg =>
      obtain rfl : k = n := by omega
      have h0 : F = 0 := by rw [HF.out, HN.out, List.drop_of_length_le (Nat.le_refl _), goN]
      subst h0
      go_wp2_with fail
      go_ret
      exact ⟨rfl, hbr⟩
    obtain ⟨x, hx⟩ : ∃ x, L[k]? = some x := ⟨_, List.getElem?_eq_getElem (by rw [← HN.out]; exact hlt)⟩
    have HX := Lib.hid hx
    obtain ⟨b, off, cs, rfl, ⟨t', rfl, htk⟩, _, hck⟩ := (HS.out.below ndR_mono hbr).get hx
    have HF2 : Hid (F = goN p (x :: L.drop (k + 1))) := Lib.hid (by rw [HF.out, drop_at hx])
    have c0 := hck 0 _ rfl
    have c1 := hck 1 _ rfl
    rw [Nat.add_zero] at c0
    obtain ⟨tw, htk1⟩ := htk
    obtain ⟨ta, tc, rfl, ht1, ht2, -⟩ := tw.shape
    have HTK : Hid (Toks wr (.slice ta x.tk.length tc) x.tk) := Lib.hid ⟨tw, htk1⟩
    obtain ⟨nm, tk⟩ := x
    dsimp only at *
    obtain ⟨m, hm⟩ : ∃ m, m = tk.length := ⟨_, rfl⟩
    rw [← hm] at c1 HTK ht1
    have HM := Lib.hid hm
    clear hx hck tw htk1 hm HF
    have hBa := hbr.alloc hbr.size (Obj.cells #[.string nm, .slice ta m tc] 25)
    by_cases hz : nm.size < 1
    · have h4 : F = 4 := by rw [HF2.out]; exact goN_size (Or.inl hz)
      have he := name_nil hz
      clear hz
      subst he
      subst h4
      go_wp2_with fail
      go_ret
      exact ⟨rfl, hBa⟩
    have hz1 : 1 ≤ nm.size := by omega
    obtain ⟨hem, hnn⟩ := name_ne hz
    by_cases hz2 : 20 < nm.size
    · have h4 : F = 4 := by rw [HF2.out]; exact goN_size (Or.inr hz2)
      subst h4
      go_wp2_with fail
      go_ret
      exact ⟨rfl, hBa⟩
    have hsz : ¬ (nm.size < 1 ∨ 20 < nm.size) := by omega
    have hcmp := name_le (s := nm) (t := t) (by omega) HT.out.1
    rw [HT.out.2] at hcmp
    obtain ⟨D, hD⟩ : ∃ D, decide (keyS nm ≤ pk p) = D := ⟨_, rfl⟩
    rw [hD] at hcmp
    have HD := Lib.hid hD
    generalize hb1 : Op.bytesLess nm.toList t.toList = b1 at *
    generalize hb2 : (nm.toList == t.toList) = b2 at *
    clear hD
    cases D with
    | true =>
      have h5 : F = 5 := by rw [HF2.out]; exact goN_order hsz (of_decide_eq_true HD.out)
      have hsz' := Lib.hid hsz
      clear hsz
      subst h5
      cases b1 with
      | true =>
        clear hcmp
        go_wp2_with fail
        go_ret
        exact ⟨rfl, hBa⟩
      | false =>
        obtain rfl : b2 = true := by simpa using hcmp
        clear hcmp
        go_wp2_with fail
        go_ret
        exact ⟨rfl, hBa⟩
    | false =>
    obtain ⟨rfl, rfl⟩ : b1 = false ∧ b2 = false := by simpa using hcmp
    clear hcmp
    have HSZ := Lib.hid hsz
    clear hsz
    by_cases hz3 : 20 < m
    · have h2 : F = 2 := by rw [HF2.out]; exact goN_large HSZ.out (of_decide_eq_false HD.out) (by rw [← HM.out]; exact hz3)
      subst h2
      go_wp2_with fail
      go_ret
      exact ⟨rfl, hBa⟩
    go_wp2_with fail
    obtain ⟨wA, hwA⟩ : ∃ wA, wA = wr.alloc (Obj.cells #[.string nm, .slice ta m tc] 25) := ⟨_, rfl⟩
    have hA0 : wA.cell? ⟨wr.heap.size, 0, none⟩ = some (.string nm) := by rw [hwA]; exact cell_new wr _ [_, _] 0 _ rfl
    have hA1 : wA.cell? ⟨wr.heap.size, 1, none⟩ = some (.slice ta m tc) := by rw [hwA]; exact cell_new wr _ [_, _] 1 _ rfl
    have HTA : Hid (Toks wA (.slice ta m tc) tk) := Lib.hid (HTK.out.below (by rw [hwA]; exact (Below.refl _ _).alloc (Nat.le_refl _) _))
    have hAs : wr.heap.size < wA.heap.size := by rw [hwA]; simp
    rw [← hwA] at hBa
    rw [← hwA]
    have HCA : Hid (wA.cell? ⟨wr.heap.size, 0, none⟩ = some (.string nm) ∧ wA.cell? ⟨wr.heap.size, 1, none⟩ = some (.slice ta m tc)) := Lib.hid ⟨hA0, hA1⟩
    have HBA := Lib.hid hBa
    generalize hbx : wr.heap.size = bx at *
    have hwsz := hBa.size
    clear hwA hA0 hA1 hBa hbx c0 c1 hbr
    go_loopw [2, 6] (fun r i wr => ∃ j : Nat, j ≤ m ∧ i = .int .i64 (j + 1) ∧ r = .int .i64 0 ∧ Below wA.heap.size wA wr ∧ Hid (∀ i, i < j → i + 1 < m → tk.getD i 0 < tk.getD (i + 1) 0)) (fun _ i _ => m + 1 - (intOf i).toNat)
    case atStart => exact ⟨0, Nat.zero_le _, rfl, rfl, Below.refl _ _, Lib.hid (fun i hi => by omega)⟩
    case round =>
      obtain ⟨j, hj, rfl, rfl, hbi, hord⟩ := hrel
      have b0 : wr.cell? ⟨bx, 0, none⟩ = some (.string nm) := (hbi.cell (p := ⟨bx, 0, none⟩) hAs).trans HCA.out.1
      have b1 : wr.cell? ⟨bx, 1, none⟩ = some (.slice ta m tc) := (hbi.cell (p := ⟨bx, 1, none⟩) hAs).trans HCA.out.2
      have hBW : Below w.heap.size w wr := HBA.out.trans (hbi.mono hwsz)
      by_cases hlt2 : j + 1 < m
      · have HTr := HTA.out.below hbi
        obtain ⟨b2, off2, e2, hc1⟩ := HTr.at (i := j + 1) (by rw [← HM.out]; exact hlt2)
        obtain ⟨b3, off3, e3, hc0⟩ := HTr.at (i := j) (by rw [← HM.out]; omega)
        subst e2
        simp only [Option.some.injEq, Addr.mk.injEq, and_true] at e3
        obtain ⟨rfl, rfl⟩ := e3
        clear HTr
        generalize hx : tk.getD j 0 = x at *
        generalize hy : tk.getD (j + 1) 0 = y at *
        have HX := Lib.hid hx
        have HY := Lib.hid hy
        clear hx hy
        have i1 : IntKind.i64.wrap ((j : Int) + 1 - 1) = (j : Int) := by rw [IntWalk.i64_in _ (by omega)]; omega
        have i2 : ((j : Int) + 1).toNat = j + 1 := by omega
        have i3 : (j : Int) + 1 < m := by omega
        have i4 : 0 ≤ (j : Int) + 1 := by omega
        have i5 : (j : Int) < m := by omega
        by_cases hle : y ≤ x
        · have h5 : F = 5 := by rw [HF2.out]; exact goN_bad HSZ.out (of_decide_eq_false HD.out) (by rw [← HM.out]; exact hz3) (not_asc (j := j) (by rw [← HM.out]; exact hlt2) (by rw [HX.out, HY.out]; exact hle))
          subst h5
          go_wp2_with fail
          go_quiet (fail)
          go_wp2_with fail
          go_ret
          exact ⟨rfl, below_drewN hBW _⟩
        · have hlt' : x < y := by omega
          have HNx : Hid (∀ i, i < j + 1 → i + 1 < m → tk.getD i 0 < tk.getD (i + 1) 0) := Lib.hid (by
            intro i hi hi2
            rcases Nat.lt_or_eq_of_le (Nat.le_of_lt_succ hi) with h | h
            · exact hord.out i h hi2
            · obtain rfl : i = j := h
              rw [HX.out, HY.out]; exact hlt')
          go_wp2_with fail
          go_quiet (fail)
          go_wp2
          go_roundw
          case rel => exact ⟨j + 1, by omega, by go_num, rfl, below_drewN hbi _, HNx⟩
          case measure => simp [intOf]; omega
      · have HF3 : Hid (F = goN (some ⟨nm, tk⟩) (L.drop (k + 1))) := Lib.hid (by
          rw [HF2.out]
          exact goN_on HSZ.out (of_decide_eq_false HD.out) (by rw [← HM.out]; exact hz3) (fun i hi => hord.out i (by rw [← HM.out] at hi; omega) (by rw [HM.out]; exact hi)))
        have HT2 : Hid (nm.size ≤ 20 ∧ keyS nm = pk (some ⟨nm, tk⟩)) := Lib.hid ⟨by omega, rfl⟩
        go_wp2_with fail
        go_roundw
        case rel => exact ⟨k + 1, _, _, by omega, by go_num, rfl, rfl, HT2, HF3, hBW⟩
        case measure => simp [intOf]; omega
end Go.Proofs.Ytcljeedmiobepaa.Nod
/-
  The ring: the walk of Owners.
-/
namespace Go.Proofs.Ytcljeedmiobepaa.Rng
open Go.RowKit Go.Gh Go.Proofs.Ytcljeedmiobepaa.Nod
set_option linter.unusedVariables false
theorem infoStr : (Try.prog.info? 9).map (fun i => (i.zero, i.size, i.bytes)) = some (some (.string ⟨#[]⟩), 1, 16) := by kernel_rfl
theorem elStr : Elem Try.prog 100 9 1 16 := elem_of Try.underlying100 infoStr rfl (by decide)
theorem hasS_mem (l : List ByteArray) (nm : ByteArray) : hasS l nm = true ↔ nm ∈ l := by
  unfold hasS
  rw [List.any_eq_true]
  constructor
  · rintro ⟨x, hx, he⟩
    have := toList_inj (beq_iff_eq.1 he)
    rw [← this]; exact hx
  · intro h
    exact ⟨nm, h, beq_iff_eq.2 rfl⟩
theorem owP_take {n : Nat} {l : List Pl} {k : Nat} {x : Pl} (h : l[k]? = some x) : owP n [] (l.take (k + 1)) = owS n (owP n [] (l.take k)) x := by
  obtain ⟨h1, h2⟩ := List.getElem?_eq_some_iff.1 h
  unfold owP
  rw [List.take_succ_eq_append_getElem h1, h2, List.foldl_append]
  rfl
theorem owP_len {n : Nat} (l : List Pl) (k : Nat) : (owP n [] (l.take k)).length ≤ k := by
  have h : ∀ (l : List Pl) (acc : List ByteArray), (owP n acc l).length ≤ acc.length + l.length := by
    intro l
    induction l with
    | nil => intro acc; exact Nat.le_refl _
    | cons x l ih =>
      intro acc
      have := ih (owS n acc x)
      have h2 : (owS n acc x).length ≤ acc.length + 1 := by
        unfold owS
        split
        · simp
        · omega
      show (owP n (owS n acc x) l).length ≤ _
      simp only [List.length_cons]
      omega
  have := h (l.take k) []
  have h2 : (l.take k).length ≤ k := by rw [List.length_take]; exact Nat.min_le_left _ _
  simp only [List.length_nil] at this
  omega
theorem rot_get {Q : List Pl} {i k : Nat} (hi : i ≤ Q.length) (hk : k < Q.length) : (Q.drop i ++ Q.take i)[k]? = Q[(i + k) % Q.length]? := by
  by_cases h : i + k < Q.length
  · rw [List.getElem?_append_left (by rw [List.length_drop]; omega), List.getElem?_drop, Nat.mod_eq_of_lt h]
  · rw [List.getElem?_append_right (by rw [List.length_drop]; omega), List.length_drop, List.getElem?_take_of_lt (by omega)]
    have : (i + k) % Q.length = k - (Q.length - i) := by
      rw [Nat.mod_eq_sub_mod (by omega), Nat.mod_eq_of_lt (by omega)]
      omega
    rw [this]
def OwPost (L : List Nd) (at' n : Int) (w : World) (e : Ending) (w' : World) : Prop := ∃ v' l k, e = .returned (.tuple #[v', .int .i64 k]) ∧ Ss w' v' l ∧ Below w.heap.size w w' ∧ if nodesF L ≠ 0 then l = [] ∧ k = nodesF L else if n < 0 then l = [] ∧ k = 1 else l = owF L at' n.toNat ∧ k = 0
theorem ss_nil (w : World) : Ss w (.slice none 0 0) [] := ⟨none, 0, rfl, Nat.le_refl _, Nat.zero_le _, fun _ => rfl, rfl, fun h => absurd h (Nat.lt_irrefl _)⟩
set_option maxHeartbeats 8000000 in
set_option maxRecDepth 100000 in
theorem owners_any (v : Value) (L : List Nd) (at' N : Int) (w : World) (hs : Sp NdR 2 w v L) (hN : N < 9223372036854775808) : Calls Try.prog 59 #[v, .int .u64 at', .int .i64 N] w (OwPost L at' N w) := by
  obtain ⟨ao, c, rfl, hnc, hc⟩ := hs.shape
  obtain ⟨n, hn⟩ : ∃ n, L.length = n := ⟨_, rfl⟩
  rw [hn] at hs hnc ⊢
  obtain ⟨E, hE⟩ : ∃ E, nodesF L = E := ⟨_, rfl⟩
  have HE := Lib.hid hE
  have HN := Lib.hid hn
  have HS := Lib.hid hs
  clear hn hs hE
  by_cases hz : E = 0
  case neg =>
    have t1 : (E != 0) = true := by rw [bne_iff_ne]; exact hz
    go_enter Try.func59, Try.ntmps59
    go_wp2_with (go_at_call 64; refine (check_any _ L _ HS.out).mono ?_; rw [HE.out]; rintro e w1 ⟨rfl, hb1⟩)
    go_ret2
    refine ⟨_, [], E, rfl, ss_nil _, hb1, ?_⟩
    rw [HE.out, if_pos hz]
    exact ⟨rfl, rfl⟩
  subst hz
  by_cases hN0 : N < 0
  · have t1 : decide (N < 0) = true := decide_eq_true hN0
    go_enter Try.func59, Try.ntmps59
    go_wp2_with (go_at_call 64; refine (check_any _ L _ HS.out).mono ?_; rw [HE.out]; rintro e w1 ⟨rfl, hb1⟩)
    go_ret2
    refine ⟨_, [], 1, rfl, ss_nil _, hb1, ?_⟩
    rw [if_neg (by simp [HE.out]), if_pos (by omega)]
    exact ⟨rfl, rfl⟩
  obtain ⟨NN, rfl⟩ : ∃ NN : Nat, N = NN := ⟨N.toNat, by omega⟩
  have t1 : decide ((NN : Int) < 0) = false := decide_eq_false hN0
  obtain ⟨z1, z2, z3⟩ := nodes_zero HE.out
  have HTK : Hid (∀ x ∈ L, x.tk.length ≤ 20) := Lib.hid fun x hx => (z2 x hx).2.2.1
  have HL20 : Hid (L.length ≤ 20) := Lib.hid z1
  obtain ⟨Q, hQ⟩ : ∃ Q, srt (pls L) = Q := ⟨_, rfl⟩
  obtain ⟨m, hm⟩ : ∃ m, Q.length = m := ⟨_, rfl⟩
  have hQl : (pls L).length = m := by rw [← hm, ← hQ]; exact (srt_perm _).length_eq.symm
  have hm4 : m ≤ 400 := by have := pls_len HTK.out; omega
  have HQS : Hid ((∀ (w : World) (v : Value) (B : Nat), w.ownsRow B 186 2 v (pls L).length (encL (srt (pls L))) → w.ownsRow B 186 2 v Q.length (encL Q)) ∧ UpP Q ∧ (∀ a, owF L a NN = owP NN [] (turned Q a))) := Lib.hid ⟨fun w v B h => by rw [hQ, hQl, ← hm] at h; exact h, by
    have := srt_pw (pls L) (fun x hx => (pls_size HE.out x hx).2)
    rw [hQ] at this
    exact this.imp fun {x y} h => by omega, fun a => by unfold owF; rw [hQ]⟩
  have HM := Lib.hid hm
  clear z1 z2 z3 hQ hm hQl hN0
  go_enter Try.func59, Try.ntmps59
  go_wp2_with (go_at_call 64; refine (check_any _ L _ HS.out).mono ?_; rw [HE.out]; rintro e w1 ⟨rfl, hb1⟩)
  refine (places_any _ L _ (HS.out.below ndR_mono hb1) HL20.out HTK.out).mono ?_
  rintro e w2 ⟨v2, rfl, hown2, hb2⟩
  have hown2 := HQS.out.1 _ _ _ hown2
  have HSQ := Lib.hid (sp_own hown2)
  rw [HM.out] at hown2
  have HB2 : Hid (Below w.heap.size w w2) := Lib.hid (hb1.trans (hb2.mono hb1.size))
  obtain ⟨po, pcc, rfl, hp1, hp2, -⟩ := own_shape hown2
  clear hb1 hb2 hown2
  go_wp2_with fail
  refine (bsp_any _ at' Q _ HSQ.out HQS.out.2.1 (by rw [HM.out]; omega)).mono ?_
  rintro e w3 ⟨i, bb, rfl, hi, hi1, hi2, hb3⟩
  have HSQ3 := Lib.hid (HSQ.out.below plR_mono hb3)
  have HB3 : Hid (Below w.heap.size w w3) := Lib.hid (HB2.out.trans (hb3.mono HB2.out.size))
  have HROT : Hid (Q.drop i ++ Q.take i = turned Q at') := Lib.hid (turned_at (fun x hx => by
    obtain ⟨j, hj⟩ := List.getElem?_of_mem hx
    have hjl := (List.getElem?_eq_some_iff.1 hj).1
    rw [List.length_take] at hjl
    rw [List.getElem?_take_of_lt (by omega)] at hj
    exact hi1 j x (by omega) hj) (fun x hx => by
    obtain ⟨j, hj⟩ := List.getElem?_of_mem hx
    rw [List.getElem?_drop] at hj
    exact hi2 _ x (by omega) hj))
  rw [HM.out] at hi
  clear hb3 hi1 hi2 hp1
  go_wp2_with fail
  go_loopw [12, 32] (fun u ik wr => ∃ (k q : Nat), k ≤ m ∧ q ≤ k ∧ ik = .int .i64 k ∧ Hid ((owP NN [] ((turned Q at').take k)).length = q) ∧ Hid (wr.ownsRow w3.heap.size 9 1 u q ((owP NN [] ((turned Q at').take k)).map Value.string)) ∧ Below w3.heap.size w3 wr) (fun _ ik _ => m - (intOf ik).toNat)
  case atStart => exact ⟨0, 0, Nat.zero_le _, Nat.le_refl _, rfl, Lib.hid rfl, Lib.hid (World.ownsRow_nil _ _ _ _), Below.refl _ _⟩
  case round =>
    obtain ⟨k, q, hk, hqk, rfl, HP, HO, hbel⟩ := hrel
    by_cases hlt : k < m
    case neg =>
      obtain rfl : k = m := by omega
      have hfull : (turned Q at').take k = turned Q at' := List.take_of_length_le (by rw [← HROT.out, List.length_append, List.length_drop, List.length_take, HM.out]; omega)
      have HR : Hid (Ss wr u12 (owF L at' NN)) := Lib.hid (by
        rw [HQS.out.2.2, ← hfull]
        have := own_sl HO.out
        unfold Ss
        rw [HP.out]
        exact this)
      have HBL := Lib.hid hbel
      clear hfull hbel
      go_wp2_with fail
      go_ret2
      refine ⟨_, owF L at' NN, 0, rfl, HR.out, HB3.out.trans (HBL.out.mono HB3.out.size), ?_⟩
      rw [if_neg (by simp [HE.out]), if_neg (by omega)]
      exact ⟨by rw [Int.toNat_natCast], rfl⟩
    obtain ⟨x, hx⟩ : ∃ x, (turned Q at')[k]? = some x := ⟨_, List.getElem?_eq_getElem (by rw [← HROT.out, List.length_append, List.length_drop, List.length_take, HM.out]; omega)⟩
    have hxq : Q[(i + k) % m]? = some x := by
      rw [← HM.out, ← rot_get (by rw [HM.out]; exact hi) (by rw [HM.out]; exact hlt), HROT.out]
      exact hx
    obtain ⟨r, hr⟩ : ∃ r, (i + k) % m = r := ⟨_, rfl⟩
    rw [hr] at hxq
    have hrm : r < m := by rw [← hr]; exact Nat.mod_lt _ (by omega)
    have hrem : Int.tmod ((i : Int) + (k : Int)) (m : Int) = (r : Int) := by
      rw [Int.tmod_eq_emod_of_nonneg (by omega), ← hr, Int.natCast_emod, Int.natCast_add]
    have hm0 : ¬ m = 0 := by omega
    obtain ⟨b, off, cs, rfl, rfl, _, hck⟩ := (HSQ3.out.below plR_mono hbel).get hxq
    have c1 := hck 1 _ rfl
    have HTKE : Hid (owP NN [] ((turned Q at').take (k + 1)) = owS NN (owP NN [] ((turned Q at').take k)) x) := Lib.hid (owP_take hx)
    obtain ⟨uo, uc, rfl, hu1, hu2, -⟩ := own_shape HO.out
    obtain ⟨A, hA⟩ : ∃ A, owP NN [] ((turned Q at').take k) = A := ⟨_, rfl⟩
    rw [hA] at HP HO HTKE
    have HSA : Hid (Ss wr (.slice uo q uc) A) := Lib.hid (by
      have := own_sl HO.out
      unfold Ss
      rw [HP.out]
      exact this)
    obtain ⟨H, hH⟩ : ∃ H, hasS A x.nm = H := ⟨_, rfl⟩
    have HH := Lib.hid hH
    obtain ⟨C, hC⟩ : ∃ C, (decide (q < NN) && !H) = C := ⟨_, rfl⟩
    have HC := Lib.hid hC
    have HBL := Lib.hid hbel
    clear hck hx hxq hr hA hH hC hbel
    go_upto_region 13 with (fail)
    go_cut [54] (fun t wx => t = .bool C ∧ ∃ nq, wx = wr.drewN nq)
    case first =>
      by_cases hqn : q < NN
      · obtain rfl : C = !H := by have := HC.out; rw [decide_eq_true hqn] at this; exact this.symm
        go_wp2_with fail
        refine (containsS_any _ A x.nm _ HSA.out).mono ?_
        rw [HH.out]
        rintro e w4 ⟨rfl, nq, rfl⟩
        go_wp2_with fail
        go_meet
        exact ⟨rfl, nq, rfl⟩
      · obtain rfl : C = false := by have := HC.out; rw [decide_eq_false hqn] at this; exact this.symm
        go_wp2_with fail
        go_meet
        exact ⟨rfl, 0, rfl⟩
    obtain ⟨rfl, nq, hwc⟩ := hcut
    have hbc : Below w3.heap.size w3 wc := by rw [hwc]; exact below_drewN HBL.out _
    have HOC : Hid (wc.ownsRow w3.heap.size 9 1 (.slice uo q uc) q (A.map Value.string)) := Lib.hid (by rw [hwc]; exact own_below HO.out (below_drewN (Below.refl _ _) _))
    have HBC := Lib.hid hbc
    clear hwc hbc
    cases C with
    | true =>
      have hc2 : q < NN ∧ H = false := by
        have := HC.out
        rw [Bool.and_eq_true, decide_eq_true_eq] at this
        exact ⟨this.1, by simpa using this.2⟩
      have HOS : Hid (owP NN [] ((turned Q at').take (k + 1)) = A ++ [x.nm]) := Lib.hid (by
        rw [HTKE.out]
        unfold owS
        rw [if_pos]
        refine ⟨by rw [HP.out]; exact hc2.1, fun h => ?_⟩
        have := (hasS_mem A x.nm).2 h
        rw [HH.out, hc2.2] at this
        simp at this)
      have HL2 : Hid ((owP NN [] ((turned Q at').take (k + 1))).length = q + 1) := Lib.hid (by rw [HOS.out, List.length_append, HP.out]; rfl)
      clear hc2
      go_wp2_with (at_builtin; refine append1 [.string x.nm] elStr rfl _ _ rfl HOC.out HBC.out HBC.out.size rfl rfl rfl (by intro x hx; simp at hx; subst hx; rfl) ?c4 ?c5 ?_)
      case c4 => omega
      case c5 => omega
      intro v5 w5 hown5 hbel5 hgr5
      have HO5 : Hid (w5.ownsRow w3.heap.size 9 1 v5 (q + 1) ((owP NN [] ((turned Q at').take (k + 1))).map Value.string)) := Lib.hid (by rw [HOS.out, List.map_append]; exact hown5)
      have HB5 := Lib.hid hbel5
      obtain ⟨vo, vc, rfl, -, -, -⟩ := own_shape hown5
      clear hown5 hgr5 hbel5
      go_wp2_with fail
      go_roundw
      case rel => exact ⟨k + 1, q + 1, by omega, by omega, by go_num, HL2, HO5, HB5.out⟩
      case measure => simp [intOf]; omega
    | false =>
      have HOS : Hid (owP NN [] ((turned Q at').take (k + 1)) = A) := Lib.hid (by
        rw [HTKE.out]
        unfold owS
        rw [if_neg]
        rintro ⟨h1, h2⟩
        have h3 := HC.out
        rw [HP.out] at h1
        rw [decide_eq_true h1, Bool.true_and] at h3
        have h4 := (hasS_mem A x.nm).1 (by rw [HH.out]; simpa using h3)
        exact h2 h4)
      have HL2 : Hid ((owP NN [] ((turned Q at').take (k + 1))).length = q) := Lib.hid (by rw [HOS.out]; exact HP.out)
      have HO5 : Hid (wc.ownsRow w3.heap.size 9 1 (.slice uo q uc) q ((owP NN [] ((turned Q at').take (k + 1))).map Value.string)) := Lib.hid (by rw [HOS.out]; exact HOC.out)
      go_wp2_with fail
      go_roundw
      case rel => exact ⟨k + 1, q, by omega, by omega, by go_num, HL2, HO5, HBC.out⟩
      case measure => simp [intOf]; omega
end Go.Proofs.Ytcljeedmiobepaa.Rng
