/-
  A put as bytes: as plain functions.
-/
import Derived.Test.YtlfhcjhbnakamaaGreatDoorSg3
import Derived.Test.YtlfhcjhbnakamaaGreatDoorSg6
import Derived.Test.YtlfhcjhbnakamaaGreatDoorSg7
import Derived.Test.YtlfhcjhbnakamaaGreatDoorSg8
import Derived.Test.YtlfhcjhbnakamaaGreatDoorSg9
import Derived.Lib.AppendZerosOnto
namespace Go.Proofs.YtlfhcjhbnakamaaGreatDoor.Sto
open Go.RowKit Go.Gh Go.Proofs.YtlfhcjhbnakamaaGreatDoor.Bits Go.Proofs.YtlfhcjhbnakamaaGreatDoor.Lab Go.Proofs.YtlfhcjhbnakamaaGreatDoor.Tk
set_option linter.unusedVariables false
set_option linter.unusedSimpArgs false
def toBy (l : List Int) : By := l.map fun z => UInt8.ofNat z.toNat
theorem bstr_toBy (l : List Int) : bstr l = mkS (toBy l) := rfl
theorem bI_toBy {l : List Int} (h : BytesL l) : bI (toBy l) = l := by
  unfold bI toBy
  rw [List.map_map]
  conv => rhs; rw [← List.map_id l]
  refine List.map_congr_left fun z hz => ?_
  have := h z hz
  show ((UInt8.ofNat z.toNat).toNat : Int) = z
  rw [UInt8.toNat_ofNat']
  omega
theorem bytes_bI (l : By) : BytesL (bI l) := by
  intro z hz
  unfold bI at hz
  obtain ⟨b, _, rfl⟩ := List.mem_map.1 hz
  have := b.toNat_lt
  omega
theorem bI_len (l : By) : (bI l).length = l.length := by unfold bI; rw [List.length_map]
theorem toBy_len (l : List Int) : (toBy l).length = l.length := by unfold toBy; rw [List.length_map]
/-- Is the time out of bounds? -/
def outT (T : Int) : Prop := T < -1152921504606846976 ∨ 1152921504606846976 < T
instance : DecidablePred outT := fun T => inferInstanceAs (Decidable (_ ∨ _))
def encB (T V : Int) (L : List Lb) : List Int := [putI 9 (zigI T), putI 9 (zigI V), bI (textM (asM L))].flatten
def putF (L : List Lb) (T : Int) : Int := if labelF L ≠ 0 then labelF L else if outT T then 6 else 0
def encR (L : List Lb) (T V : Int) : List Int := if putF L T = 0 then encB T V L else []
theorem zig_zag {u : Int} (h0 : 0 ≤ u) : zigI (zagI u) = u := by
  unfold zigI zagI
  split
  · rw [if_pos (by omega)]
    omega
  · rw [if_neg (by omega)]
    omega
theorem zag_bd {u : Int} (h0 : 0 ≤ u) (h1 : u < 18446744073709551616) : -9223372036854775808 ≤ zagI u ∧ zagI u < 9223372036854775808 := by
  unfold zagI
  split <;> omega
theorem zig_bd {n : Int} (h0 : -9223372036854775808 ≤ n) (h1 : n < 9223372036854775808) : 0 ≤ zigI n ∧ zigI n < 18446744073709551616 := by
  unfold zigI
  split <;> omega
/-- What is taken is a number of 64 bits, of at most ten bytes. -/
theorem takeS_top : ∀ (l : List Int) (u : Int) (i : Nat) (n k : Int), BytesL l → i ≤ 9 → 0 ≤ u → u < 2 ^ (7 * i) → takeS u i l = (n, k, 0) → n < 18446744073709551616
  | [], u, i, n, k, _, _, _, _, h => by
    rw [takeS] at h
    have := congrArg (fun r : Int × Int × Int => r.2.2) h
    simp at this
  | b :: rest, u, i, n, k, hb, hi, h0, h1, h => by
    rw [takeS] at h
    have hb0 := hb b (by simp)
    split at h
    · have := congrArg (fun r : Int × Int × Int => r.2.2) h
      simp at this
    · rename_i hbad
      have hnb := not_or.1 hbad
      have hstep := or_hi u b i h1 hb0.1
      have hlo := or_lo u b i h0 hb0.1
      split at h
      · have e1 : u + b % 128 * 2 ^ (7 * i) = n := congrArg (fun r : Int × Int × Int => r.1) h
        by_cases h9 : i = 9
        · subst h9
          have hb1 : b ≤ 1 := by
            rcases Int.lt_or_le 1 b with h' | h'
            · exact absurd ⟨rfl, h'⟩ hnb.1
            · exact h'
          have : (2 : Int) ^ (7 * 9) = 9223372036854775808 := by decide
          rw [this] at e1 h1
          have hm : b % 128 = b := by omega
          rw [hm] at e1
          have hbb : b = 0 ∨ b = 1 := by omega
          rcases hbb with rfl | rfl <;> omega
        · have hp : (2 : Int) ^ (7 * (i + 1)) ≤ 2 ^ (7 * 9) := by
            have : i + 1 = 1 ∨ i + 1 = 2 ∨ i + 1 = 3 ∨ i + 1 = 4 ∨ i + 1 = 5 ∨ i + 1 = 6 ∨ i + 1 = 7 ∨ i + 1 = 8 ∨ i + 1 = 9 := by omega
            rcases this with h | h | h | h | h | h | h | h | h <;> rw [h] <;> decide
          have : (2 : Int) ^ (7 * 9) = 9223372036854775808 := by decide
          omega
      · rename_i hbig
        have hi9 : i ≠ 9 := fun h9 => hnb.1 ⟨h9, by omega⟩
        exact takeS_top rest _ (i + 1) n k (fun z hz => hb z (by simp [hz])) (by omega) hlo hstep h
theorem take_all {l : List Int} {n k : Int} (hb : BytesL l) (h : takeS 0 0 l = (n, k, 0)) : 0 ≤ n ∧ n < 18446744073709551616 ∧ 0 < k ∧ k ≤ l.length ∧ k ≤ 10 ∧ l.take k.toNat = putI 9 n := by
  obtain ⟨h1, h2, h3⟩ := take_canon hb h
  have h4 := takeS_top l 0 0 n k hb (by omega) (by omega) (by decide) h
  obtain ⟨h5, h6⟩ := putI_len 9 n
  have h7 := congrArg List.length h3
  rw [List.length_take] at h7
  refine ⟨h1, h4, by omega, by omega, by omega, ?_⟩
  rw [h2, Int.toNat_natCast]
  exact h3
/-- What the bytes of a put tell. -/
noncomputable def decF (b : List Int) : Option (List Lb × Int × Int) :=
  if (takeS 0 0 b).2.2 ≠ 0 then none else
  if (takeS 0 0 (b.drop (takeS 0 0 b).2.1.toNat)).2.2 ≠ 0 then none else
  match lbF (toBy ((b.drop (takeS 0 0 b).2.1.toNat).drop (takeS 0 0 (b.drop (takeS 0 0 b).2.1.toNat)).2.1.toNat)) with
  | none => none
  | some L => if outT (zagI (takeS 0 0 b).1) then none else some (L, zagI (takeS 0 0 b).1, zagI (takeS 0 0 (b.drop (takeS 0 0 b).2.1.toNat)).1)
theorem dec_1 {b : List Int} {t k e : Int} (h : takeS 0 0 b = (t, k, e)) (he : e ≠ 0) : decF b = none := by
  unfold decF
  rw [h, if_pos he]
theorem dec_2 {b : List Int} {t k v k2 e : Int} (h : takeS 0 0 b = (t, k, 0)) (h2 : takeS 0 0 (b.drop k.toNat) = (v, k2, e)) (he : e ≠ 0) : decF b = none := by
  unfold decF
  rw [h, if_neg (by simp)]
  dsimp only
  rw [h2, if_pos he]
theorem dec_3 {b : List Int} {t k v k2 : Int} (h : takeS 0 0 b = (t, k, 0)) (h2 : takeS 0 0 (b.drop k.toNat) = (v, k2, 0)) : decF b = match lbF (toBy ((b.drop k.toNat).drop k2.toNat)) with | none => none | some L => if outT (zagI t) then none else some (L, zagI t, zagI v) := by
  unfold decF
  rw [h, if_neg (by simp)]
  dsimp only
  rw [h2, if_neg (by simp)]
theorem lbF_spec {l : By} {L : List Lb} (h : lbF l = some L) : labelF L = 0 ∧ textM (asM L) = l := by
  cases hm : rmF l with
  | none => rw [lbF_none hm] at h; simp at h
  | some ms =>
    rw [lbF_some hm] at h
    split at h
    · rename_i hp
      injection h with h
      rw [← h]
      exact hp
    · simp at h
/-- What was read back is written as it stood. -/
theorem enc_back {b : List Int} {t k v k2 : Int} {L : List Lb} (hb : BytesL b) (h : takeS 0 0 b = (t, k, 0)) (h2 : takeS 0 0 (b.drop k.toNat) = (v, k2, 0)) (hl : lbF (toBy ((b.drop k.toNat).drop k2.toNat)) = some L) : encB (zagI t) (zagI v) L = b := by
  have hb2 : BytesL (b.drop k.toNat) := fun z hz => hb z (List.mem_of_mem_drop hz)
  have hb3 : BytesL ((b.drop k.toNat).drop k2.toNat) := fun z hz => hb2 z (List.mem_of_mem_drop hz)
  obtain ⟨a1, a2, a3, a4, -, a5⟩ := take_all hb h
  obtain ⟨b1, b2, b3, b4, -, b5⟩ := take_all hb2 h2
  unfold encB
  rw [zig_zag a1, zig_zag b1, (lbF_spec hl).2, bI_toBy hb3, ← a5, ← b5]
  simp only [List.flatten_cons, List.flatten_nil, List.append_nil]
  rw [List.take_append_drop, List.take_append_drop]
end Go.Proofs.YtlfhcjhbnakamaaGreatDoor.Sto
/-
  []byte: append of whatever slice to whatever row; the walks of slices.Grow, slices.Concat.
-/
namespace Go.Proofs.YtlfhcjhbnakamaaGreatDoor.CatB
open Go.RowKit Go.Gh
set_option linter.unusedVariables false
set_option linter.unusedSimpArgs false
def ByR (w : World) (l : List Int) (c : List Value) : Prop := ∃ t, c = [t] ∧ Sl w 1 t l.length (l.map (Value.int .u8))
theorem byR_mono : Mono ByR := fun w w' a c ⟨t, h1, h2⟩ hb => ⟨t, h1, h2.below hb⟩
theorem run_append_gen {P : Program} {W : World} {B : Nat} {t ty e : TypeId} {size bytes n m c : Nat} {ao : Option Addr} {v : Value} {xs news : List Value} (el : Elem P t e size bytes) (hown : W.ownsRow B e size v n xs) (hx : Sl W size (.slice ao m c) m news) (h1 : ∀ u ∈ news, u.oneCell' = true)
    (h47 : (n + m) * bytes ≤ 140737488355328) (h63 : n + m ≤ 9223372036854775807) (hB : B ≤ W.heap.size) :
    ∃ v' w', (Builtin.append_ #[t, t] ty #[v, .slice ao m c]).run P W = .ok v' w' ∧ w'.ownsRow B e size v' (n + m) (xs ++ news) ∧ W.grownBy w' v.ownBlock := by
  obtain ⟨i, z, h2, h3, h4, h5, h6⟩ := el.info
  have hl : news.length = m * size := by obtain ⟨_, _, _, _, _, _, h, _⟩ := hx; exact h
  cases ao with
  | none =>
    obtain ⟨rfl, rfl⟩ : m = 0 ∧ c = 0 := by
      obtain ⟨ao', cap, e1, h, _, h', _, _⟩ := hx
      simp at e1
      obtain ⟨rfl, rfl⟩ := e1
      have := h' rfl
      omega
    have hnil : news = [] := List.length_eq_zero_iff.1 (by simpa using hl)
    subst hnil
    have hr := run_append_owned_none (P := P) (w := W) B t ty e i size el.und h2 _ n xs hown
    exact ⟨v, W, hr, by rw [List.append_nil]; exact hown, ⟨rfl, rfl, rfl, Nat.le_refl _, fun _ _ _ => rfl⟩⟩
  | some ad =>
    obtain ⟨v', w', hr, h7, h8, _⟩ := run_append_own (P := P) W B t ty e i z size bytes el.und h2 h3 h4 h5 h6 el.pos v n xs hown ad m c news hl (sl_news hx) h1 (by unfold maxLen; exact h63) h47 hB
    exact ⟨v', w', hr, h7, h8⟩
theorem wpList_append_gen {P : Program} {ops : Array Oper} {rest : List Oper} {o : Oper} {a : Act} {Q : Exit → Act → World → Prop} {W w0 : World} {B : Nat} {t e : TypeId} {size bytes n m c : Nat} {ao : Option Addr} {v : Value} {xs news : List Value} (el : Elem P t e size bytes) (hgd : o.guard = none) (s x : Operand)
    (ho : o.op = .call { callee := .builtin .append, args := #[s, x], argTypes := #[t, t] }) (hown : W.ownsRow B e size v n xs) (hbel : Below B w0 W) (hs : a.eval s = v) (hxv : a.eval x = .slice ao m c) (hx : Sl W size (.slice ao m c) m news) (h1 : ∀ u ∈ news, u.oneCell' = true)
    (h47 : (n + m) * bytes ≤ 140737488355328) (h63 : n + m ≤ 9223372036854775807) (hB : B ≤ W.heap.size)
    (h : ∀ v' w', w'.ownsRow B e size v' (n + m) (xs ++ news) → Below B w0 w' → W.grownBy w' v.ownBlock → wpList P ops Q rest (a.put o.dst v') w') : wpList P ops Q (o :: rest) a W :=
  wpList_plain hgd fun _ hK => by
    obtain ⟨v', w', hr, h2, h3⟩ := run_append_gen (P := P) (ty := o.type) el hown hx h1 h47 h63 hB
    unfold Oper.wp execOp
    simp only [ho, resolve, invoke, builtin, Sem.run_bind, Sem.run_pure, Result.andThen_ok, List.map_toArray, List.map_cons, List.map_nil, hs, hxv, hr]
    exact hK _ _ (h v' w' h2 (Below.grown hbel h3 hB (fun k hk => (hown.lt k hk).1)) h3)
theorem wpList_append_zeros {P : Program} {ops : Array Oper} {rest : List Oper} {o : Oper} {a : Act} {Q : Exit → Act → World → Prop} {W W' : World} {t tn : TypeId} {k : IntKind} {n : Int} {v : Value} (hgd : o.guard = none) (s x : Operand)
    (ho : o.op = .call { callee := .builtin .append, args := #[s, x], argTypes := #[t, tn] }) (hs : a.eval s = .slice none 0 0) (hxv : a.eval x = .int k n) (hr : ∀ ty, (Builtin.append_ #[t, tn] ty #[.slice none 0 0, .int k n]).run P W = .ok v W')
    (h : wpList P ops Q rest (a.put o.dst v) W') : wpList P ops Q (o :: rest) a W :=
  wpList_plain hgd fun _ hK => by
    have hr := hr o.type
    unfold Oper.wp execOp
    simp only [ho, resolve, invoke, builtin, Sem.run_bind, Sem.run_pure, Result.andThen_ok, List.map_toArray, List.map_cons, List.map_nil, hs, hxv, hr]
    exact hK _ _ h
theorem own_none {w : World} {B : Nat} {e : TypeId} {g n cap size : Nat} {xs : List Value} (h : w.ownsRow B e size (.slice (some ⟨g, 0, none⟩) n cap) n xs) : w.ownsRow B e size (.slice (some ⟨g, 0, none⟩) 0 cap) 0 [] := by
  rcases h.2 with ⟨e1, _⟩ | ⟨g', cap', cur, e1, hb, hg, hnc, hcm, hsz, _⟩
  · simp at e1
  · simp at e1
    obtain ⟨rfl, rfl⟩ := e1
    exact ⟨by simp, Or.inr ⟨g, cap, cur, rfl, hb, hg, Nat.zero_le _, hcm, hsz, by simp⟩⟩
set_option maxHeartbeats 2000000 in
set_option maxRecDepth 100000 in
theorem grow_any (n : Nat) (w : World) (hn : n ≤ 1000000) :
    Calls Tryz.prog 66 #[.slice none 0 0, .int .i64 n] w fun e w' => ∃ v', e = .returned v' ∧ w'.ownsRow w.heap.size 5 1 v' 0 [] ∧ Below w.heap.size w w' := by
  rcases Nat.eq_zero_or_pos n with rfl | hpos
  · go_enter Tryz.func66, Tryz.ntmps66
    go_wp2_with fail
    go_ret
    exact ⟨_, rfl, World.ownsRow_nil _ _ _ _, Below.refl _ _⟩
  · obtain ⟨i0, z0, hi0, hz0, hs0, hby0, hzs0⟩ := Bits.elU8.info
    have hr : ∀ ty, (Builtin.append_ #[45, 3] ty #[.slice none 0 0, .int .i64 n]).run Tryz.prog w = .ok (.slice (some ⟨w.heap.size, 0, none⟩) n (grownCap w n 0 5)) (w.drew.alloc (.cells (Builtin.zeroCells z0.cells n ++ Builtin.zeroCells z0.cells (grownCap w n 0 5 - n)) 5)) :=
      fun ty => Lib.run_append_nil_zeros w 45 3 ty 5 i0 z0 .i64 .i64 Bits.elU8.und Tryz.underlying3 hi0 hz0 n hpos (by omega) (by omega) (by rw [hby0]; omega)
    obtain ⟨hrow, -⟩ := zeros_row (w := w) (e := 5) (k := 1) (n := n) (i := 0) (B := w.heap.size) (old := 0) (z := z0) (xs := []) (by rw [hzs0]) rfl (Nat.zero_le _) hpos (Nat.le_refl _) (by unfold maxLen; omega)
    rw [Nat.sub_zero, show ([] : List Value).toArray ++ Builtin.zeroCells z0.cells n = Builtin.zeroCells z0.cells n from by simp] at hrow
    have hown := own_none hrow
    have hGn := grownCap_ge w n 0 5
    have hG63 := grownCap_le_maxLen w n 0 5 (by unfold maxLen; omega)
    unfold maxLen at hG63
    obtain ⟨W1, hW1⟩ : ∃ W1, W1 = w.drew.alloc (.cells (Builtin.zeroCells z0.cells n ++ Builtin.zeroCells z0.cells (grownCap w n 0 5 - n)) 5) := ⟨_, rfl⟩
    have hb1 : Below w.heap.size w W1 := by rw [hW1]; exact (Below.refl _ _).drew.alloc (Nat.le_refl _) _
    rw [← hW1] at hr hown
    obtain ⟨G, hG⟩ : ∃ G, G = grownCap w n 0 5 := ⟨_, rfl⟩
    rw [← hG] at hr hown hGn hG63
    have HO := Lib.hid hown
    have HR := Lib.hid hr
    clear hrow hown hW1 hG hr
    go_enter Tryz.func66, Tryz.ntmps66
    go_wp2_with (at_builtin; refine wpList_append_zeros rfl _ _ rfl rfl rfl HR.out ?_)
    go_ret
    exact ⟨_, rfl, HO.out, hb1⟩
theorem flat_take {lv : List (List Int)} {k : Nat} {l : List Int} (h : lv[k]? = some l) : (lv.take (k + 1)).flatten = (lv.take k).flatten ++ l := by
  obtain ⟨h1, h2⟩ := List.getElem?_eq_some_iff.1 h
  rw [List.take_succ_eq_append_getElem h1, h2, List.flatten_append, List.flatten_singleton]
theorem flat_len : ∀ {lv : List (List Int)}, (∀ l ∈ lv, l.length ≤ 4096) → lv.flatten.length ≤ 4096 * lv.length
  | [], _ => by simp
  | l :: lv, h => by
    have h1 := flat_len (lv := lv) (fun x hx => h x (by simp [hx]))
    have h2 := h l (by simp)
    rw [List.flatten_cons, List.length_append, List.length_cons]
    omega
set_option maxHeartbeats 4000000 in
set_option maxRecDepth 100000 in
theorem concat_any (u : Value) (lv : List (List Int)) (w : World) (hu : Sp ByR 1 w u lv) (h64 : ∀ l ∈ lv, l.length ≤ 4096) (hL20 : lv.length ≤ 20) :
    Calls Tryz.prog 43 #[u] w fun e w' => ∃ v', e = .returned v' ∧ w'.ownsRow w.heap.size 5 1 v' lv.flatten.length (lv.flatten.map (Value.int .u8)) ∧ Below w.heap.size w w' := by
  obtain ⟨bo, d, rfl, hod, hd⟩ := hu.shape
  obtain ⟨L, hL⟩ : ∃ n, lv.length = n := ⟨_, rfl⟩
  have HU := Lib.hid hu
  rw [hL] at HU hod hL20 ⊢
  have HL := Lib.hid hL
  have H64 := Lib.hid h64
  have HFL : Hid (∀ k, ((lv.take k).flatten).length ≤ 4096 * 20) := Lib.hid (fun k => by
    have h1 := flat_len (lv := lv.take k) (fun l hl => h64 l (List.mem_of_mem_take hl))
    rw [List.length_take] at h1
    omega)
  clear hL hu h64
  go_enter Tryz.func43, Tryz.ntmps43
  go_wp2_with fail
  go_loopw [3, 11] (fun y i wr => ∃ k : Nat, k ≤ L ∧ i = .int .i64 k ∧ y = .int .i64 ((lv.take k).flatten.length : Nat) ∧ w = wr) (fun _ i _ => L - (intOf i).toNat)
  case atStart => exact ⟨0, Nat.zero_le _, rfl, rfl, rfl⟩
  case round =>
    obtain ⟨k, hk, rfl, rfl, rfl⟩ := hrel
    by_cases hlt : k < L
    · obtain ⟨l, hl⟩ : ∃ l, lv[k]? = some l := ⟨_, List.getElem?_eq_getElem (by rw [HL.out]; exact hlt)⟩
      obtain ⟨g, off, cs, rfl, ⟨t, rfl, hns⟩, _, hck⟩ := HU.out.get hl
      have c0 := hck 0 _ rfl
      rw [Nat.add_zero, Nat.mul_one] at c0
      obtain ⟨lo, lc, rfl, hlc, hlc2, -⟩ := hns.shape
      have hf := flat_take hl
      have h1 := HFL.out k
      have h2 := HFL.out (k + 1)
      obtain ⟨p, hp⟩ : ∃ p, (lv.take k).flatten.length = p := ⟨_, rfl⟩
      obtain ⟨m, hm⟩ : ∃ m, l.length = m := ⟨_, rfl⟩
      have HF : Hid ((lv.take (k + 1)).flatten.length = p + m) := Lib.hid (by rw [hf, List.length_append, hp, hm])
      rw [hf, List.length_append] at h2
      rw [hp] at h1 h2 ⊢
      rw [hm] at h2 hlc c0
      clear hck hl hns hf hp hm
      go_wp2_with fail
      go_roundw
      case rel => exact ⟨k + 1, by omega, by go_num, by rw [HF.out]; go_num, by first | rfl | trivial⟩
      case measure => simp [intOf]; omega
    · have hkL : k = L := by omega
      subst hkL
      have hta : lv.take k = lv := List.take_of_length_le (by rw [HL.out]; exact Nat.le_refl _)
      have h1 := HFL.out k
      rw [hta] at h1 ⊢
      obtain ⟨p, hp⟩ : ∃ p, lv.flatten.length = p := ⟨_, rfl⟩
      have HP := Lib.hid hp
      rw [hp] at h1 ⊢
      clear hta hp
      go_wp2_with fail
      refine (grow_any p _ (by omega)).mono ?_
      rintro e w1 ⟨v1, rfl, hown1, hb1⟩
      have HO1 := Lib.hid hown1
      have HB1 := Lib.hid hb1
      clear hown1 hb1
      go_wp2_with fail
      go_loopw [6, 27] (fun v i wr => ∃ j : Nat, j ≤ k ∧ i = .int .i64 j ∧ Hid (wr.ownsRow w.heap.size 5 1 v (lv.take j).flatten.length ((lv.take j).flatten.map (Value.int .u8))) ∧ Below w.heap.size w wr) (fun _ i _ => k - (intOf i).toNat)
      case atStart => exact ⟨0, Nat.zero_le _, rfl, HO1, HB1.out⟩
      case round =>
        obtain ⟨j, hj, rfl, HO, hbr⟩ := hrel
        obtain ⟨uo, uc, rfl, huc, -, -⟩ := own_shape HO.out
        by_cases hlt2 : j < k
        · obtain ⟨l, hl⟩ : ∃ l, lv[j]? = some l := ⟨_, List.getElem?_eq_getElem (by rw [HL.out]; exact hlt2)⟩
          obtain ⟨g, off, cs, rfl, ⟨t, rfl, hns⟩, _, hck⟩ := (HU.out.below byR_mono hbr).get hl
          have c0 := hck 0 _ rfl
          rw [Nat.add_zero, Nat.mul_one] at c0
          obtain ⟨lo, lc, rfl, hlc, hlc2, -⟩ := hns.shape
          have hf := flat_take hl
          have h1 := HFL.out j
          have h2 := HFL.out (j + 1)
          rw [hf, List.length_append] at h2
          have HF : Hid ((lv.take (j + 1)).flatten = (lv.take j).flatten ++ l) := Lib.hid hf
          have HNS := Lib.hid hns
          have hown := HO.out
          clear hck hl hf hns
          go_wp2_with (at_builtin; refine wpList_append_gen Bits.elU8 rfl _ _ rfl hown hbr rfl rfl HNS.out (Bits.ints_one _ _) ?c1 ?c2 hbr.size ?_)
          case c1 => omega
          case c2 => omega
          intro v7 w7 hown7 hbel7 _
          have HO7 : Hid (w7.ownsRow w.heap.size 5 1 v7 (lv.take (j + 1)).flatten.length ((lv.take (j + 1)).flatten.map (Value.int .u8))) := Lib.hid (by
            rw [HF.out, List.length_append, List.map_append]
            simpa using hown7)
          clear hown7 hown
          go_wp2_with fail
          go_roundw
          case rel => exact ⟨j + 1, by omega, by go_num, HO7, hbel7⟩
          case measure => simp [intOf]; omega
        · have hjk : j = k := by omega
          subst hjk
          have HO7 := HO.out
          rw [List.take_of_length_le (by rw [HL.out]; exact Nat.le_refl _), HP.out] at HO7
          have HO8 := Lib.hid HO7
          clear HO7
          go_wp2_with fail
          go_ret
          exact ⟨_, rfl, by first | exact HO8.out | (rw [List.take_of_length_le (by rw [HL.out]; exact Nat.le_refl _), HP.out]; exact HO8.out), hbr⟩
end Go.Proofs.YtlfhcjhbnakamaaGreatDoor.CatB
