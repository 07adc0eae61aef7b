/-
  Ranks: the walk of Kept; an argument opened.
-/
import Derived.Test.YtcljeedmiobepaaRk5
import Derived.Lib.SmallJoins
namespace Go.Proofs.Ytcljeedmiobepaa.Rk
open Go.RowKit Go.Gh Go.WideShapes Go.ChangeShapes Go.ChangeAt Go.Deep Go.Joins
set_option linter.unusedVariables false
set_option maxHeartbeats 4000000 in
set_option maxRecDepth 100000 in
theorem Kept_any (v : Value) (s : Rk) (w : World) (hv : RkV w v s) (hw : wellR s) :
    Calls Try.prog 93 #[v] w fun e w' => ∃ v', e = .returned v' ∧ w'.ownsRow w.heap.size 2 1 v' (keptR s).length ((keptR s).map (Value.int .i64)) ∧ Below w.heap.size w w' := by
  obtain ⟨t, u, rfl, ht, hu⟩ := hv
  obtain ⟨ao, c, rfl, hnc, hc, -⟩ := ht.shape
  obtain ⟨bo, d, rfl, hod, hd⟩ := hu.shape
  obtain ⟨L, hL⟩ : ∃ n, s.lv.length = n := ⟨_, rfl⟩
  obtain ⟨n, hn⟩ : ∃ n, s.tl.length = n := ⟨_, rfl⟩
  obtain ⟨wA, hwA⟩ : ∃ wA, wA = w.alloc (Obj.cells #[.int .i64 s.k, .slice ao n c, .slice bo L d, .int .i64 s.n, .int .i64 s.sl] 141) := ⟨_, rfl⟩
  have hbA : Below w.heap.size w wA := by rw [hwA]; exact (Below.refl _ _).alloc (Nat.le_refl _) _
  have hbox : wA.heap[w.heap.size]? = some (.cells #[.int .i64 s.k, .slice ao n c, .slice bo L d, .int .i64 s.n, .int .i64 s.sl] 141 (0, 0)) := by rw [hwA]; exact heap_alloc_new w _
  have hTA := ht.below hbA
  have hwp := well_parts hw
  have h64 : ∀ l ∈ s.lv, l.length ≤ 64 := fun l hl => by have := (hwp.2.2.2.2.2 l hl).1; omega
  have hL20 := hwp.2.2.2.1
  have hn64 : n ≤ 64 := by omega
  have HFL : Hid (∀ k, ((s.lv.take k).flatten).length ≤ 64 * 20) := Lib.hid (fun k => by
    have h1 := flat_len (lv := s.lv.take k) (fun l hl => h64 l (List.mem_of_mem_take hl))
    rw [List.length_take] at h1
    omega)
  unfold Ns at hTA
  rw [hn] at hTA hnc ⊢
  rw [hL] at hu hod ⊢
  have HU0 := Lib.hid hu
  have HTA := Lib.hid hTA
  have HL := Lib.hid hL
  have HN := Lib.hid hn
  have HW := Lib.hid hwA
  have HBA := Lib.hid hbA
  have hlt0 : w.heap.size < wA.heap.size := (Array.getElem?_eq_some_iff.1 hbox).1
  have HBOX := Lib.hid hbox
  have hszA := hbA.size
  clear hn hL ht hu hwA hbA hw hwp h64 hTA
  go_enter Try.func93, Try.ntmps93
  go_upto_region 1 with (fail)
  rw [← HW.out]
  obtain ⟨⟨d0, d1, d2, d3, d4⟩, -⟩ := bx5 hbox
  clear hbox
  have hnil := World.ownsRow_nil wA w.heap.size 2 1
  go_wp2_with (at_builtin; refine wpList_append_gen Sort64.elI64 rfl _ _ rfl hnil HBA.out rfl rfl HTA.out (Sort64.ints_one _) ?c1 ?c2 hszA ?_)
  case c1 => omega
  case c2 => omega
  intro v1 w1 hown1 hb1 hg1
  have hbox1 := grown_block2 hg1 (by simp [Value.ownBlock]) HBOX.out
  have HO1 : Hid (w1.ownsRow w.heap.size 2 1 v1 (s.tl ++ (s.lv.take 0).flatten).length ((s.tl ++ (s.lv.take 0).flatten).map (Value.int .i64))) := Lib.hid (by
    have e1 : s.tl ++ (s.lv.take 0).flatten = s.tl := by simp
    rw [e1, HN.out]
    simpa using hown1)
  have HB1 := Lib.hid hb1
  clear d0 d1 d2 d3 d4 hown1 hg1 hnil hb1
  obtain ⟨⟨d0, d1, d2, d3, d4⟩, -⟩ := bx5 hbox1
  clear hbox1
  go_wp2_with fail
  go_loopw [3, 12] (fun v i wr => ∃ j : Nat, j ≤ L ∧ i = .int .i64 j ∧ Hid (wr.ownsRow w.heap.size 2 1 v (s.tl ++ (s.lv.take j).flatten).length ((s.tl ++ (s.lv.take j).flatten).map (Value.int .i64))) ∧ Below w.heap.size w wr) (fun _ i _ => L - (intOf i).toNat)
  case atStart => exact ⟨0, Nat.zero_le _, rfl, HO1, HB1.out⟩
  case round =>
    obtain ⟨j, hj, rfl, HO, hbr⟩ := hrel
    by_cases hlt2 : j < L
    · obtain ⟨l, hl⟩ : ∃ l, s.lv[j]? = some l := ⟨_, List.getElem?_eq_getElem (by rw [HL.out]; exact hlt2)⟩
      obtain ⟨g, off, cs, rfl, ⟨t, rfl, hns⟩, _, hck⟩ := (HU0.out.below lvR_mono hbr).get hl
      have c0 := hck 0 _ rfl
      rw [Nat.add_zero, Nat.mul_one] at c0
      obtain ⟨lo, lc, rfl, hlc, hlc2, -⟩ := hns.shape
      have hf := flat_take hl
      have h1 := HFL.out j
      have h2 := HFL.out (j + 1)
      rw [hf, List.length_append] at h2
      obtain ⟨A, hA⟩ : ∃ A, s.tl ++ (s.lv.take j).flatten = A := ⟨_, rfl⟩
      have hlen : A.length ≤ 64 + 1280 := by rw [← hA, List.length_append, HN.out]; omega
      obtain ⟨p, hp⟩ : ∃ p, A.length = p := ⟨_, rfl⟩
      have HF : Hid (s.tl ++ (s.lv.take (j + 1)).flatten = A ++ l) := Lib.hid (by rw [hf, ← List.append_assoc, hA])
      have hown := HO.out
      rw [hA, hp] at hown
      rw [hp] at hlen
      obtain ⟨uo, uc, rfl, huc, -, -⟩ := own_shape hown
      have HNS := Lib.hid hns
      have hll : l.length ≤ 1280 := by omega
      have HPL := Lib.hid hp
      clear hck hl hf hns h1 h2 HO hA hp
      go_wp2_with (at_builtin; refine wpList_append_gen Sort64.elI64 rfl _ _ rfl hown (Below.refl w.heap.size wr) rfl rfl HNS.out (Sort64.ints_one _) ?c1 ?c2 hbr.size ?_)
      case c1 => omega
      case c2 => omega
      intro v7 w7 hown7 _ hg7
      have hb7 : Below w.heap.size w w7 := Below.grown hbr hg7 hbr.size (fun k hk => (hown.lt k hk).1)
      have HO7 : Hid (w7.ownsRow w.heap.size 2 1 v7 (s.tl ++ (s.lv.take (j + 1)).flatten).length ((s.tl ++ (s.lv.take (j + 1)).flatten).map (Value.int .i64))) := Lib.hid (by
        rw [HF.out, List.length_append, List.map_append, HPL.out]
        simpa using hown7)
      clear hown7 hown hg7
      go_wp2_with fail
      go_roundw
      case rel => exact ⟨j + 1, by omega, by go_num, HO7, hb7⟩
      case measure => simp [intOf]; omega
    · have hjk : j = L := by omega
      subst hjk
      obtain ⟨uo, uc, rfl, huc, -, -⟩ := own_shape HO.out
      have HO7 := HO.out
      rw [List.take_of_length_le (by rw [HL.out]; exact Nat.le_refl _)] at HO7
      have HO8 := Lib.hid HO7
      clear HO7
      go_wp2_with fail
      go_ret
      exact ⟨_, rfl, by first | exact HO8.out | (rw [List.take_of_length_le (by rw [HL.out]; exact Nat.le_refl _)]; exact HO8.out), hbr⟩
section
variable {H : Type} {enc : TypeId × Value → H} {P : Program} {W : World} {base : Nat} {spare : Nat → Bool} {held : Bool}
/-- A slice of integers that came in, without its weights. -/
theorem sl_ints0' {t e : TypeId} {k : IntKind} {fuel : Nat} {v : Value} {x : DataW H × List MemPlace} (ht : P.underlying t = some (.slice e)) (he : P.underlying e = some (.int k)) (hc : P.cellsOf e = 1)
    (h : DataW.trod enc P W base spare held fuel t [v] = some x) : ∃ (n : Nat) (zs : List Int), Sl W 1 v n (zs.map (Value.int k)) ∧ (∀ z ∈ zs, (Lit.int k z).wf = true) := by
  rcases open_ints ht he hc h with ⟨hcs, _⟩ | ⟨a, len, cap, zs, hcs, _, hl, hm, hz, hx, hcell, hwz⟩
  · obtain rfl : v = .slice none 0 0 := by simpa using hcs
    exact ⟨0, [], ⟨none, 0, rfl, Nat.le_refl _, Nat.zero_le _, fun _ => rfl, by simp, fun h => absurd h (Nat.lt_irrefl _)⟩, by simp⟩
  · obtain rfl : v = .slice (some a) len cap := by simpa using hcs
    have hlz : len ≤ zs.length := by rw [hz]; split <;> omega
    refine ⟨len, zs.take len, ⟨some a, cap, rfl, hl, hm, fun h => by simp at h, by simp; omega, fun hn => ?_⟩, fun z hz' => hwz z (List.mem_of_mem_take hz')⟩
    have h0 := hcell 0 (by omega)
    obtain ⟨b, off, spot⟩ := a
    have hs := World.cell?_spot h0
    simp [Addr.add] at hs
    subst hs
    refine ⟨b, off, rfl, fun i u hu => ?_⟩
    have hi : i < len := by
      rcases Nat.lt_or_ge i len with h' | h'
      · exact h'
      · rw [List.getElem?_eq_none (by simp; omega)] at hu; simp at hu
    have := hcell i (by omega)
    rw [addr_add] at this
    rw [this]
    have hi' : i < zs.length := by omega
    simp [List.getElem?_map, hi, List.getElem?_eq_getElem hi'] at hu
    rw [← hu, List.getD_eq_getElem?_getD, List.getElem?_eq_getElem hi']
    rfl
end
def IsRk (w : World) (v : Value) : Prop := ∃ s, RkV w v s
section
variable {H : Type} {enc : TypeId × Value → H} {W : World} {base b0 : Nat} {r : Reach} {spare : Nat → Bool} {held : Bool} {v : Value} {d : DataW H} {ps : List MemPlace}
theorem kI64 : Try.prog.cellsOf 2 = 1 := by kernel_rfl
theorem kInt : Try.prog.cellsOf 3 = 1 := by kernel_rfl
theorem kNs : Try.prog.cellsOf 72 = 1 := by kernel_rfl
theorem kLv : Try.prog.cellsOf 139 = 1 := by kernel_rfl
theorem trod_ns {fuel : Nat} {c0 : Value} {x : DataW H × List MemPlace} (h : DataW.trod enc Try.prog W base spare held fuel 72 [c0] = some x) : ∃ l, Ns W c0 l := by
  obtain ⟨n, l, hs, _⟩ := sl_ints0' Try.underlying72 Try.underlying2 kI64 h
  have hl : l.length = n := by
    obtain ⟨_, _, _, _, _, hl⟩ := hs.shape
    simpa using hl
  exact ⟨l, by unfold Ns; rw [hl]; exact hs⟩
theorem oneL {l : List Value} (h : l.length = 1) : ∃ a, l = [a] := by
  match l, h with
  | [a], _ => exact ⟨a, rfl⟩
theorem fiveL {cs : Array Value} (h : cs.size = 5) : ∃ a b c d e, cs = #[a, b, c, d, e] := by
  obtain ⟨l⟩ := cs
  match l, h with
  | [a, b, c, d, e], _ => exact ⟨a, b, c, d, e, rfl⟩
set_option maxRecDepth 100000 in
theorem cellsRk : Try.prog.cellsOf 141 = 5 := by kernel_rfl
set_option maxRecDepth 100000 in
theorem isRk_of (hv : Value.okWide Try.prog W r b0 141 v) (hd : DataW.Trod enc Try.prog W base spare held 141 v d ps) (hs : ∀ n ∈ d.weights Try.prog 141, n ≤ reachBytes) : IsRk W v := by
  obtain ⟨cs, rfl, hsz⟩ := okWide_struct Try.underlying141 hv
  obtain ⟨c0, c1, c2, c3, c4, rfl⟩ := fiveL (hsz.trans cellsRk)
  obtain ⟨fuel, hf⟩ := hd
  have hf' : DataW.trod enc Try.prog W base spare held fuel 141 [c0, c1, c2, c3, c4] = some (d, ps) := by simpa [Value.cells] using hf
  obtain ⟨ys, n2, _, _, _, hyl, hfy⟩ := DataW.trod_struct Try.underlying141 hf'
  have hys : ys.length = 5 := hyl
  have g0 : DataW.trod enc Try.prog W base spare held n2 3 (([c0, c1, c2, c3, c4].drop 0).take (Try.prog.cellsOf 3)) = ys[0]? := hfy 0 _ rfl
  have g1 : DataW.trod enc Try.prog W base spare held n2 72 (([c0, c1, c2, c3, c4].drop 1).take (Try.prog.cellsOf 72)) = ys[1]? := hfy 1 _ rfl
  have g2 : DataW.trod enc Try.prog W base spare held n2 139 (([c0, c1, c2, c3, c4].drop 2).take (Try.prog.cellsOf 139)) = ys[2]? := hfy 2 _ rfl
  have g3 : DataW.trod enc Try.prog W base spare held n2 2 (([c0, c1, c2, c3, c4].drop 3).take (Try.prog.cellsOf 2)) = ys[3]? := hfy 3 _ rfl
  have g4 : DataW.trod enc Try.prog W base spare held n2 2 (([c0, c1, c2, c3, c4].drop 4).take (Try.prog.cellsOf 2)) = ys[4]? := hfy 4 _ rfl
  rw [kInt] at g0
  rw [kNs] at g1
  rw [kLv] at g2
  rw [kI64] at g3 g4
  simp only [List.drop, List.take] at g0 g1 g2 g3 g4
  rw [List.getElem?_eq_getElem (by rw [hys]; decide)] at g0 g1 g2 g3 g4
  obtain ⟨K, e0, _, _⟩ := DataW.trod_int Try.underlying3 g0
  obtain ⟨tl, h1⟩ := trod_ns g1
  obtain ⟨lv, h2, _⟩ := sp_of (R := LvR) inferInstance Try.underlying139 kNs (by decide) (fun fuel cs x h1 h2 => by
    obtain ⟨c0, rfl⟩ := oneL h2
    obtain ⟨l, hl⟩ := trod_ns h1
    exact ⟨l, c0, rfl, hl⟩) g2
  obtain ⟨N, e3, _, _⟩ := DataW.trod_int Try.underlying2 g3
  obtain ⟨F, e4, _, _⟩ := DataW.trod_int Try.underlying2 g4
  obtain rfl : c0 = .int .i64 K := by simpa using e0
  obtain rfl : c3 = .int .i64 N := by simpa using e3
  obtain rfl : c4 = .int .i64 F := by simpa using e4
  exact ⟨⟨K, tl, lv, N, F⟩, _, _, rfl, h1, h2⟩
end
end Go.Proofs.Ytcljeedmiobepaa.Rk
