/-
  Ranks: append of whatever slice to whatever row; the walks of slices.Grow, slices.Concat at []int64.
-/
import Derived.Test.YtcljeedmiobepaaRk3
import Derived.Test.YtcljeedmiobepaaIns
namespace Go.Proofs.Ytcljeedmiobepaa.Rk
open Go.RowKit Go.Gh
set_option linter.unusedVariables false
theorem run_append_gen {P : Program} {W : World} {B : Nat} {t ty e : TypeId} {size bytes n m c : Nat} {ao : Option Addr} {v : Value} {xs news : List Value} (el : Elem P t e size bytes) (hown : W.ownsRow B e size v n xs) (hx : Sl W size (.slice ao m c) m news) (h1 : ∀ u ∈ news, u.oneCell' = true)
    (h47 : (n + m) * bytes ≤ 140737488355328) (h63 : n + m ≤ 9223372036854775807) (hB : B ≤ W.heap.size) :
    ∃ v' w', (Builtin.append_ #[t, t] ty #[v, .slice ao m c]).run P W = .ok v' w' ∧ w'.ownsRow B e size v' (n + m) (xs ++ news) ∧ W.grownBy w' v.ownBlock := by
  obtain ⟨i, z, h2, h3, h4, h5, h6⟩ := el.info
  have hl : news.length = m * size := by obtain ⟨_, _, _, _, _, _, h, _⟩ := hx; exact h
  cases ao with
  | none =>
    obtain ⟨rfl, rfl⟩ : m = 0 ∧ c = 0 := by
      obtain ⟨ao', cap, e1, h, _, h', _, _⟩ := hx
      simp at e1
      obtain ⟨rfl, rfl⟩ := e1
      have := h' rfl
      omega
    have hnil : news = [] := List.length_eq_zero_iff.1 (by simpa using hl)
    subst hnil
    have hr := run_append_owned_none (P := P) (w := W) B t ty e i size el.und h2 _ n xs hown
    exact ⟨v, W, hr, by rw [List.append_nil]; exact hown, ⟨rfl, rfl, rfl, Nat.le_refl _, fun _ _ _ => rfl⟩⟩
  | some ad =>
    obtain ⟨v', w', hr, h7, h8, _⟩ := run_append_own (P := P) W B t ty e i z size bytes el.und h2 h3 h4 h5 h6 el.pos v n xs hown ad m c news hl (sl_news hx) h1 (by unfold maxLen; exact h63) h47 hB
    exact ⟨v', w', hr, h7, h8⟩
theorem wpList_append_gen {P : Program} {ops : Array Oper} {rest : List Oper} {o : Oper} {a : Act} {Q : Exit → Act → World → Prop} {W w0 : World} {B : Nat} {t e : TypeId} {size bytes n m c : Nat} {ao : Option Addr} {v : Value} {xs news : List Value} (el : Elem P t e size bytes) (hgd : o.guard = none) (s x : Operand)
    (ho : o.op = .call { callee := .builtin .append, args := #[s, x], argTypes := #[t, t] }) (hown : W.ownsRow B e size v n xs) (hbel : Below B w0 W) (hs : a.eval s = v) (hxv : a.eval x = .slice ao m c) (hx : Sl W size (.slice ao m c) m news) (h1 : ∀ u ∈ news, u.oneCell' = true)
    (h47 : (n + m) * bytes ≤ 140737488355328) (h63 : n + m ≤ 9223372036854775807) (hB : B ≤ W.heap.size)
    (h : ∀ v' w', w'.ownsRow B e size v' (n + m) (xs ++ news) → Below B w0 w' → W.grownBy w' v.ownBlock → wpList P ops Q rest (a.put o.dst v') w') : wpList P ops Q (o :: rest) a W :=
  wpList_plain hgd fun _ hK => by
    obtain ⟨v', w', hr, h2, h3⟩ := run_append_gen (P := P) (ty := o.type) el hown hx h1 h47 h63 hB
    unfold Oper.wp execOp
    simp only [ho, resolve, invoke, builtin, Sem.run_bind, Sem.run_pure, Result.andThen_ok, List.map_toArray, List.map_cons, List.map_nil, hs, hxv, hr]
    exact hK _ _ (h v' w' h2 (Below.grown hbel h3 hB (fun k hk => (hown.lt k hk).1)) h3)
theorem wpList_append_zeros {P : Program} {ops : Array Oper} {rest : List Oper} {o : Oper} {a : Act} {Q : Exit → Act → World → Prop} {W W' : World} {t tn : TypeId} {k : IntKind} {n : Int} {v : Value} (hgd : o.guard = none) (s x : Operand)
    (ho : o.op = .call { callee := .builtin .append, args := #[s, x], argTypes := #[t, tn] }) (hs : a.eval s = .slice none 0 0) (hxv : a.eval x = .int k n) (hr : ∀ ty, (Builtin.append_ #[t, tn] ty #[.slice none 0 0, .int k n]).run P W = .ok v W')
    (h : wpList P ops Q rest (a.put o.dst v) W') : wpList P ops Q (o :: rest) a W :=
  wpList_plain hgd fun _ hK => by
    have hr := hr o.type
    unfold Oper.wp execOp
    simp only [ho, resolve, invoke, builtin, Sem.run_bind, Sem.run_pure, Result.andThen_ok, List.map_toArray, List.map_cons, List.map_nil, hs, hxv, hr]
    exact hK _ _ h
theorem own_none {w : World} {B : Nat} {e : TypeId} {g n cap size : Nat} {xs : List Value} (h : w.ownsRow B e size (.slice (some ⟨g, 0, none⟩) n cap) n xs) : w.ownsRow B e size (.slice (some ⟨g, 0, none⟩) 0 cap) 0 [] := by
  rcases h.2 with ⟨e1, _⟩ | ⟨g', cap', cur, e1, hb, hg, hnc, hcm, hsz, _⟩
  · simp at e1
  · simp at e1
    obtain ⟨rfl, rfl⟩ := e1
    exact ⟨by simp, Or.inr ⟨g, cap, cur, rfl, hb, hg, Nat.zero_le _, hcm, hsz, by simp⟩⟩
set_option maxHeartbeats 2000000 in
set_option maxRecDepth 100000 in
theorem grow_any (n : Nat) (w : World) (hn : n ≤ 1000000) :
    Calls Try.prog 198 #[.slice none 0 0, .int .i64 n] w fun e w' => ∃ v', e = .returned v' ∧ w'.ownsRow w.heap.size 2 1 v' 0 [] ∧ Below w.heap.size w w' := by
  rcases Nat.eq_zero_or_pos n with rfl | hpos
  · go_enter Try.func198, Try.ntmps198
    go_wp2_with fail
    go_ret
    exact ⟨_, rfl, World.ownsRow_nil _ _ _ _, Below.refl _ _⟩
  · obtain ⟨i0, z0, hi0, hz0, hs0, hby0, hzs0⟩ := Sort64.elI64.info
    have hr : ∀ ty, (Builtin.append_ #[72, 3] ty #[.slice none 0 0, .int .i64 n]).run Try.prog w = .ok (.slice (some ⟨w.heap.size, 0, none⟩) n (grownCap w n 0 2)) (w.drew.alloc (.cells (Builtin.zeroCells z0.cells n ++ Builtin.zeroCells z0.cells (grownCap w n 0 2 - n)) 2)) :=
      fun ty => Lib.run_append_nil_zeros w 72 3 ty 2 i0 z0 .i64 .i64 Sort64.elI64.und Try.underlying3 hi0 hz0 n hpos (by omega) (by omega) (by rw [hby0]; omega)
    obtain ⟨hrow, -⟩ := zeros_row (w := w) (e := 2) (k := 1) (n := n) (i := 0) (B := w.heap.size) (old := 0) (z := z0) (xs := []) (by rw [hzs0]) rfl (Nat.zero_le _) hpos (Nat.le_refl _) (by unfold maxLen; omega)
    rw [Nat.sub_zero, show ([] : List Value).toArray ++ Builtin.zeroCells z0.cells n = Builtin.zeroCells z0.cells n from by simp] at hrow
    have hown := own_none hrow
    have hGn := grownCap_ge w n 0 2
    have hG63 := grownCap_le_maxLen w n 0 2 (by unfold maxLen; omega)
    unfold maxLen at hG63
    obtain ⟨W1, hW1⟩ : ∃ W1, W1 = w.drew.alloc (.cells (Builtin.zeroCells z0.cells n ++ Builtin.zeroCells z0.cells (grownCap w n 0 2 - n)) 2) := ⟨_, rfl⟩
    have hb1 : Below w.heap.size w W1 := by rw [hW1]; exact (Below.refl _ _).drew.alloc (Nat.le_refl _) _
    rw [← hW1] at hr hown
    obtain ⟨G, hG⟩ : ∃ G, G = grownCap w n 0 2 := ⟨_, rfl⟩
    rw [← hG] at hr hown hGn hG63
    have HO := Lib.hid hown
    have HR := Lib.hid hr
    clear hrow hown hW1 hG hr
    go_enter Try.func198, Try.ntmps198
    go_wp2_with (at_builtin; refine wpList_append_zeros rfl _ _ rfl rfl rfl HR.out ?_)
    go_ret
    exact ⟨_, rfl, HO.out, hb1⟩
theorem flat_take {lv : List (List Int)} {k : Nat} {l : List Int} (h : lv[k]? = some l) : (lv.take (k + 1)).flatten = (lv.take k).flatten ++ l := by
  obtain ⟨h1, h2⟩ := List.getElem?_eq_some_iff.1 h
  rw [List.take_succ_eq_append_getElem h1, h2, List.flatten_append, List.flatten_singleton]
theorem flat_len : ∀ {lv : List (List Int)}, (∀ l ∈ lv, l.length ≤ 64) → lv.flatten.length ≤ 64 * lv.length
  | [], _ => by simp
  | l :: lv, h => by
    have h1 := flat_len (lv := lv) (fun x hx => h x (by simp [hx]))
    have h2 := h l (by simp)
    rw [List.flatten_cons, List.length_append, List.length_cons]
    omega
set_option maxHeartbeats 4000000 in
set_option maxRecDepth 100000 in
theorem concat_any (u : Value) (lv : List (List Int)) (w : World) (hu : Sp LvR 1 w u lv) (h64 : ∀ l ∈ lv, l.length ≤ 64) (hL20 : lv.length ≤ 20) :
    Calls Try.prog 146 #[u] w fun e w' => ∃ v', e = .returned v' ∧ w'.ownsRow w.heap.size 2 1 v' lv.flatten.length (lv.flatten.map (Value.int .i64)) ∧ Below w.heap.size w w' := by
  obtain ⟨bo, d, rfl, hod, hd⟩ := hu.shape
  obtain ⟨L, hL⟩ : ∃ n, lv.length = n := ⟨_, rfl⟩
  have HU := Lib.hid hu
  rw [hL] at HU hod hL20 ⊢
  have HL := Lib.hid hL
  have H64 := Lib.hid h64
  have HFL : Hid (∀ k, ((lv.take k).flatten).length ≤ 64 * 20) := Lib.hid (fun k => by
    have h1 := flat_len (lv := lv.take k) (fun l hl => h64 l (List.mem_of_mem_take hl))
    rw [List.length_take] at h1
    omega)
  clear hL hu h64
  go_enter Try.func146, Try.ntmps146
  go_wp2_with fail
  go_loopw [3, 11] (fun y i wr => ∃ k : Nat, k ≤ L ∧ i = .int .i64 k ∧ y = .int .i64 ((lv.take k).flatten.length : Nat) ∧ w = wr) (fun _ i _ => L - (intOf i).toNat)
  case atStart => exact ⟨0, Nat.zero_le _, rfl, rfl, rfl⟩
  case round =>
    obtain ⟨k, hk, rfl, rfl, rfl⟩ := hrel
    by_cases hlt : k < L
    · obtain ⟨l, hl⟩ : ∃ l, lv[k]? = some l := ⟨_, List.getElem?_eq_getElem (by rw [HL.out]; exact hlt)⟩
      obtain ⟨g, off, cs, rfl, ⟨t, rfl, hns⟩, _, hck⟩ := HU.out.get hl
      have c0 := hck 0 _ rfl
      rw [Nat.add_zero, Nat.mul_one] at c0
      obtain ⟨lo, lc, rfl, hlc, hlc2, -⟩ := hns.shape
      have hf := flat_take hl
      have h1 := HFL.out k
      have h2 := HFL.out (k + 1)
      obtain ⟨p, hp⟩ : ∃ p, (lv.take k).flatten.length = p := ⟨_, rfl⟩
      obtain ⟨m, hm⟩ : ∃ m, l.length = m := ⟨_, rfl⟩
      have HF : Hid ((lv.take (k + 1)).flatten.length = p + m) := Lib.hid (by rw [hf, List.length_append, hp, hm])
      rw [hf, List.length_append] at h2
      rw [hp] at h1 h2 ⊢
      rw [hm] at h2 hlc c0
      clear hck hl hns hf hp hm
      go_wp2_with fail
      go_roundw
      case rel => exact ⟨k + 1, by omega, by go_num, by rw [HF.out]; go_num, by first | rfl | trivial⟩
      case measure => simp [intOf]; omega
    · have hkL : k = L := by omega
      subst hkL
      have hta : lv.take k = lv := List.take_of_length_le (by rw [HL.out]; exact Nat.le_refl _)
      have h1 := HFL.out k
      rw [hta] at h1 ⊢
      obtain ⟨p, hp⟩ : ∃ p, lv.flatten.length = p := ⟨_, rfl⟩
      have HP := Lib.hid hp
      rw [hp] at h1 ⊢
      clear hta hp
      go_wp2_with fail
      refine (grow_any p _ (by omega)).mono ?_
      rintro e w1 ⟨v1, rfl, hown1, hb1⟩
      have HO1 := Lib.hid hown1
      have HB1 := Lib.hid hb1
      clear hown1 hb1
      go_wp2_with fail
      go_loopw [6, 27] (fun v i wr => ∃ j : Nat, j ≤ k ∧ i = .int .i64 j ∧ Hid (wr.ownsRow w.heap.size 2 1 v (lv.take j).flatten.length ((lv.take j).flatten.map (Value.int .i64))) ∧ Below w.heap.size w wr) (fun _ i _ => k - (intOf i).toNat)
      case atStart => exact ⟨0, Nat.zero_le _, rfl, HO1, HB1.out⟩
      case round =>
        obtain ⟨j, hj, rfl, HO, hbr⟩ := hrel
        obtain ⟨uo, uc, rfl, huc, -, -⟩ := own_shape HO.out
        by_cases hlt2 : j < k
        · obtain ⟨l, hl⟩ : ∃ l, lv[j]? = some l := ⟨_, List.getElem?_eq_getElem (by rw [HL.out]; exact hlt2)⟩
          obtain ⟨g, off, cs, rfl, ⟨t, rfl, hns⟩, _, hck⟩ := (HU.out.below lvR_mono hbr).get hl
          have c0 := hck 0 _ rfl
          rw [Nat.add_zero, Nat.mul_one] at c0
          obtain ⟨lo, lc, rfl, hlc, hlc2, -⟩ := hns.shape
          have hf := flat_take hl
          have h1 := HFL.out j
          have h2 := HFL.out (j + 1)
          rw [hf, List.length_append] at h2
          have HF : Hid ((lv.take (j + 1)).flatten = (lv.take j).flatten ++ l) := Lib.hid hf
          have HNS := Lib.hid hns
          have hown := HO.out
          clear hck hl hf hns
          go_wp2_with (at_builtin; refine wpList_append_gen Sort64.elI64 rfl _ _ rfl hown hbr rfl rfl HNS.out (Sort64.ints_one _) ?c1 ?c2 hbr.size ?_)
          case c1 => omega
          case c2 => omega
          intro v7 w7 hown7 hbel7 _
          have HO7 : Hid (w7.ownsRow w.heap.size 2 1 v7 (lv.take (j + 1)).flatten.length ((lv.take (j + 1)).flatten.map (Value.int .i64))) := Lib.hid (by
            rw [HF.out, List.length_append, List.map_append]
            simpa using hown7)
          clear hown7 hown
          go_wp2_with fail
          go_roundw
          case rel => exact ⟨j + 1, by omega, by go_num, HO7, hbel7⟩
          case measure => simp [intOf]; omega
        · have hjk : j = k := by omega
          subst hjk
          have HO7 := HO.out
          rw [List.take_of_length_le (by rw [HL.out]; exact Nat.le_refl _), HP.out] at HO7
          have HO8 := Lib.hid HO7
          clear HO7
          go_wp2_with fail
          go_ret
          exact ⟨_, rfl, by first | exact HO8.out | (rw [List.take_of_length_le (by rw [HL.out]; exact Nat.le_refl _), HP.out]; exact HO8.out), hbr⟩
end Go.Proofs.Ytcljeedmiobepaa.Rk
