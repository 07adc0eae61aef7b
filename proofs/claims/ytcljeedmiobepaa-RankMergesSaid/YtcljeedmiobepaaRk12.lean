/-
  Ranks: the walk of add.
-/
import Derived.Test.YtcljeedmiobepaaRk11
namespace Go.Proofs.Ytcljeedmiobepaa.Rk
open Go.RowKit Go.Gh
set_option linter.unusedVariables false
/-- What adding may write: the box, the tail's row, the levels' row, and what it makes. -/
structure Fp2 (w w' : World) (bx : Nat) (t u t' u' : Value) : Prop where
  size : w.heap.size ≤ w'.heap.size
  keep : ∀ x, x < w.heap.size → x ≠ bx → t.ownBlock ≠ some x → u.ownBlock ≠ some x → w'.heap[x]? = w.heap[x]?
  liesT : ∀ b, t'.ownBlock = some b → t.ownBlock = some b ∨ w.heap.size ≤ b
  liesU : ∀ b, u'.ownBlock = some b → u.ownBlock = some b ∨ w.heap.size ≤ b
theorem apart_none (v : Value) : v.ownBlock = none ∨ v.ownBlock ≠ (Value.slice none 0 0).ownBlock := by
  cases h : v.ownBlock with
  | none => exact Or.inl rfl
  | some b => exact Or.inr (by simp [Value.ownBlock])
theorem Lvs.none {gt : Option Nat} {B : Nat} {w : World} {u : Value} {lv : List (List Int)} (h : Lvs gt B w u lv) : Lvs (Value.slice none 0 0).ownBlock B w u lv := by
  obtain ⟨P, h1, h2, h3, h4⟩ := h
  refine ⟨P, h1, h2, fun p hp => ?_, h4⟩
  obtain ⟨t, e1, e2, -⟩ := h3 p hp
  exact ⟨t, e1, e2, apart_none t⟩
theorem ins_map (l : List Int) (v : Int) (hp : l.Pairwise (· ≤ ·)) : (l.map (Value.int .i64)).take (cntLt v l * 1) ++ ([Value.int .i64 v] ++ (l.map (Value.int .i64)).drop (cntLt v l * 1)) = (insB l v).map (Value.int .i64) := by
  rw [← insS_insB hp, Nat.mul_one]
  unfold insS
  rw [List.map_append, List.map_cons, List.map_take, List.map_drop]
  rfl
set_option maxHeartbeats 8000000 in
set_option maxRecDepth 100000 in
theorem add_any (w : World) (B bx : Nat) (s : Rk) (v : Int) (t u : Value) (hbox : w.heap[bx]? = some (.cells #[.int .i64 s.k, t, u, .int .i64 s.n, .int .i64 s.sl] 141 (0, 0))) (ho : OwnRk B w s t u) (hlow : B ≤ bx ∧ B ≤ w.heap.size)
    (hp : s.tl.Pairwise (· ≤ ·)) (ht : s.tl.length ≤ 63) (hlv : s.lv.length ≤ 30) (hlen : ∀ a ∈ s.lv, a.length ≤ 64) (hN : 0 ≤ s.n ∧ s.n ≤ 4611686018427387904) (hS : 0 ≤ s.sl ∧ s.sl ≤ 4611686018427387904) :
    Calls Try.prog 151 #[.pointer (some ⟨bx, 0, none⟩), .int .i64 v] w fun e w' => e = .returned (.tuple #[]) ∧ ∃ t' u', w'.heap[bx]? = some (.cells #[.int .i64 s.k, t', u', .int .i64 (s.n + 1), .int .i64 (addG s v).sl] 141 (0, 0)) ∧ OwnRk B w' (addG s v) t' u' ∧ Fp2 w w' bx t u t' u' ∧ Below B w w' := by
  obtain ⟨n, hn⟩ : ∃ n, s.tl.length = n := ⟨_, rfl⟩
  have hown := ho.1
  rw [hn] at hown ht
  obtain ⟨ao, ac, rfl, hac, -, -⟩ := own_shape hown
  have HNS : Hid (Ns w (.slice ao n ac) s.tl) := Lib.hid (by unfold Ns; rw [hn]; exact own_sl hown)
  have HN := Lib.hid hn
  have HO := Lib.hid ho
  have HBOX := Lib.hid hbox
  have HP := Lib.hid hp
  have HLEN := Lib.hid hlen
  have hl0 : bx < w.heap.size := (Array.getElem?_eq_some_iff.1 hbox).1
  have huo := ho.2
  obtain ⟨P, e1, e2, e3, e4⟩ := huo
  obtain ⟨uo, uc, rfl, -, -, -⟩ := own_shape e4
  obtain ⟨L, hL⟩ : ∃ L, s.lv.length = L := ⟨_, rfl⟩
  rw [hL] at HO HBOX e4 hbox ho ⊢
  have HL := Lib.hid hL
  have hw1 : IntKind.i64.wrap (s.n + 1) = s.n + 1 := IntWalk.i64_in _ (by omega)
  obtain ⟨⟨d0, d1, d2, d3, d4⟩, -⟩ := bx5 hbox
  clear hn hown ho hbox hp hlen e1 e2 e3 e4 hL
  go_enter Try.func151, Try.ntmps151
  go_wp2_with fail
  refine (bsearch_any _ s.tl v _ HNS.out HP.out (by rw [HN.out]; omega)).mono ?_
  rintro e w1 ⟨rfl, hb1⟩
  obtain ⟨i, hi⟩ : ∃ i, cntLt v s.tl = i := ⟨_, rfl⟩
  have hin : i ≤ n := by have := cntLt_le v s.tl; rw [hi, HN.out] at this; exact this
  rw [hi]
  have HI := Lib.hid hi
  have ho1 := HO.out.below hb1
  have hbox1 := (hb1.block _ hl0).trans HBOX.out
  have hown1 := ho1.1
  rw [HN.out] at hown1
  have NE1 : (Value.slice ao n ac).ownBlock ≠ some w1.heap.size := fun h => by have := (hown1.lt _ h).2; omega
  have hsz1 := hb1.size
  have hB1 : B ≤ w1.heap.size := by omega
  have HO1 := Lib.hid ho1
  have HOW1 := Lib.hid hown1
  have HBOX1 := Lib.hid hbox1
  have HB1 := Lib.hid hb1
  clear d0 d1 d2 d3 d4 hb1 hi ho1 hown1
  obtain ⟨⟨d0, d1, d2, d3, d4⟩, -⟩ := bx5 hbox1
  clear hbox1
  go_wp2_with fail
  refine (insert_i64 _ n i B w1.heap.size (s.tl.map (Value.int .i64)) [.int .i64 v] _ (HOW1.out.alloc _) (heap_alloc_new w1 _) rfl NE1 hin (by omega) (by simp; omega) (Sort64.ints_one _) (by intro x hx; simp at hx; rw [hx]; rfl)).mono ?_
  rintro e w6 ⟨v6, rfl, hown6, hg6, hat6⟩
  rw [← HI.out, ins_map s.tl v HP.out] at hown6
  obtain ⟨A, hA⟩ : ∃ A, insB s.tl v = A := ⟨_, rfl⟩
  have hAl : A.length = n + 1 := by rw [← hA, insB_len, HN.out]
  rw [hA] at hown6
  obtain ⟨ao6, c6, rfl, -, -, -⟩ := own_shape hown6
  obtain ⟨W1, hW1⟩ : ∃ W1, W1 = w1.alloc (Obj.cells [Value.int .i64 v].toArray 2) := ⟨_, rfl⟩
  have hbW : Below w1.heap.size w1 W1 := by rw [hW1]; exact (Below.refl _ _).alloc (Nat.le_refl _) _
  have hoW := HO1.out.below hbW
  have hboxW := (hbW.block _ (Array.getElem?_eq_some_iff.1 HBOX1.out).1).trans HBOX1.out
  rw [← hW1] at hg6
  have hszW : W1.heap.size = w1.heap.size + 1 := by rw [hW1]; simp
  have hatW : (Value.slice ao6 (n + 1) c6).ownBlock = (Value.slice ao n ac).ownBlock ∨ ∃ b, (Value.slice ao6 (n + 1) c6).ownBlock = some b ∧ W1.heap.size ≤ b := by rw [hW1]; exact hat6
  have hownW := hoW.1
  rw [HN.out] at hownW
  have Y1 := grown_block2 hg6 (own_block_ne hownW hboxW (by decide)) hboxW
  have hlv6 : Lvs (Value.slice ao6 (n + 1) c6).ownBlock B w6 (.slice uo L uc) s.lv := by
    obtain ⟨P, e1, e2, e3, e4⟩ := hoW.2
    refine ⟨P, e1, e2, fun p hp => ?_, e4.kept hg6 (own_ne hownW e4 (by decide))⟩
    obtain ⟨t1, i1, i2, i3⟩ := e3 p hp
    refine ⟨t1, i1, i2.kept hg6 i3, ?_⟩
    cases hb : t1.ownBlock with
    | none => exact Or.inl rfl
    | some b =>
      refine Or.inr fun e => ?_
      rcases hatW with h5 | ⟨b', h5, h6⟩
      · rw [h5] at e
        rw [hb] at i3
        rcases i3 with i3 | i3
        · simp at i3
        · exact i3 e
      · rw [h5] at e
        have := (i2.lt b hb).2
        have : b = b' := by simpa using e
        omega
  have hbel6 : Below B w w6 := Below.grown ((HB1.out.mono hlow.2).trans (hbW.mono hB1)) hg6 (by omega) (fun k hk => (hownW.lt k hk).1)
  have HKEEP : Hid (∀ x, x < w.heap.size → x ≠ bx → (Value.slice ao n ac).ownBlock ≠ some x → w6.heap[x]? = w.heap[x]?) := Lib.hid (fun x h1 h2 h3 => by
    rw [hg6.block x (by omega) (fun e => h3 e.symm), hbW.block x (by omega), HB1.out.block x h1])
  have HLT : Hid (∀ b, (Value.slice ao6 (n + 1) c6).ownBlock = some b → (Value.slice ao n ac).ownBlock = some b ∨ w.heap.size ≤ b) := Lib.hid (fun b hb => by
    rcases hatW with h5 | ⟨b', h5, h6⟩
    · exact Or.inl (by rw [← h5]; exact hb)
    · rw [h5] at hb
      have : b' = b := by simpa using hb
      exact Or.inr (by omega))
  have hsz6 := hg6.size
  have hszA : w.heap.size ≤ w6.heap.size := by omega
  have HR6 : Hid (OwnRk B w6 ⟨s.k, A, s.lv, s.n, s.sl⟩ (.slice ao6 (n + 1) c6) (.slice uo L uc)) := Lib.hid ⟨by rw [show (⟨s.k, A, s.lv, s.n, s.sl⟩ : Rk).tl.length = n + 1 from hAl]; exact hown6, hlv6⟩
  have HA := Lib.hid hA
  have HAL := Lib.hid hAl
  have z1 := row_setCell 1 (.slice ao6 (n + 1) c6) Y1
  have z2 := row_setCell 3 (.int .i64 (s.n + 1)) z1
  have hr7 := (HR6.out.boxed (i := 1) (x := .slice ao6 (n + 1) c6) Y1 (by decide) (by decide)).boxed (i := 3) (x := .int .i64 (s.n + 1)) z1 (by decide) (by decide)
  have HR7 := Lib.hid hr7
  have HZ1 := Lib.hid z1
  have HZ2 := Lib.hid z2
  have HB7 := Lib.hid ((hbel6.setCell (p := ⟨bx, 1, none⟩) hlow.1 (.slice ao6 (n + 1) c6)).setCell (p := ⟨bx, 3, none⟩) hlow.1 (.int .i64 (s.n + 1)))
  clear d0 d1 d2 d3 d4 hown6 hg6 hat6 hA hAl hW1 hbW hoW hboxW hatW hownW hlv6 hbel6 z1 z2 hr7
  obtain ⟨⟨d0, d1, d2, d3, d4⟩, ⟨f0, f1, f2, f3, f4⟩⟩ := bx5 Y1
  clear Y1
  go_upto_region 2 with (fail)
  obtain ⟨⟨q0, q1, q2, q3, q4⟩, ⟨g0, g1, g2, g3, g4⟩⟩ := bx5 HZ1.out
  clear d0 d1 d2 d3 d4 f0 f1 f2 f3 f4
  go_upto_region 3 with (fail)
  obtain ⟨w7, hw7⟩ : ∃ x, x = (w6.setCell ⟨bx, 1, none⟩ (.slice ao6 (n + 1) c6)).setCell ⟨bx, 3, none⟩ (.int .i64 (s.n + 1)) := ⟨_, rfl⟩
  have X1 : w7.heap[bx]? = some (.cells #[.int .i64 s.k, .slice ao6 (n + 1) c6, .slice uo L uc, .int .i64 (s.n + 1), .int .i64 s.sl] 141 (0, 0)) := by rw [hw7]; exact HZ2.out
  have HR : Hid (OwnRk B w7 ⟨s.k, A, s.lv, s.n + 1, s.sl⟩ (.slice ao6 (n + 1) c6) (.slice uo L uc)) := Lib.hid (by rw [hw7]; exact HR7.out)
  have HB : Hid (Below B w w7) := Lib.hid (by rw [hw7]; exact HB7.out)
  have hsz7 : w.heap.size ≤ w7.heap.size := by rw [hw7]; simpa using hszA
  have HK : Hid (∀ x, x < w.heap.size → x ≠ bx → (Value.slice ao n ac).ownBlock ≠ some x → w7.heap[x]? = w.heap[x]?) := Lib.hid (fun x h1 h2 h3 => by
    rw [hw7, Below.heap_setCell _ ⟨bx, 3, none⟩ _ x h2, Below.heap_setCell _ ⟨bx, 1, none⟩ _ x h2]
    exact HKEEP.out x h1 h2 h3)
  rw [← hw7]
  clear hw7 HZ1 HZ2 HB7 HR7 HR6 HKEEP q0 q1 q2 q3 q4 g0 g1 g2 g3 g4
  have HX1 := Lib.hid X1
  obtain ⟨⟨d0, d1, d2, d3, d4⟩, ⟨f0, f1, f2, f3, f4⟩⟩ := bx5 X1
  clear X1
  by_cases hK : ((n : Int) + 1) = s.k
  · have t1 : (((n : Int) + 1) == s.k) = true := by rw [beq_iff_eq]; exact hK
    have t2 : (((n + 1 : Nat) : Int) == s.k) = true := by rw [beq_iff_eq]; omega
    have HADD : Hid (addG s v = ⟨s.k, [], (carryG s.lv s.sl A 0).1, s.n + 1, (carryG s.lv s.sl A 0).2⟩) := Lib.hid (by unfold addG; rw [HA.out, if_pos (by rw [HAL.out]; omega)])
    have hlen64 : A.length ≤ 64 := by rw [HAL.out]; omega
    have HCA : Hid (∀ q, CAt ((w7.drewN q).setCell ⟨bx, 1, none⟩ (.slice none 0 0)) B bx s.k (s.n + 1) [] (.slice none 0 0) (.slice uo L uc) (carryG s.lv s.sl A 0) s.lv.length s.sl s.lv s.sl A 0 (.slice ao6 (n + 1) c6) (.slice uo L uc) ((w7.drewN q).setCell ⟨bx, 1, none⟩ (.slice none 0 0))) := Lib.hid (fun q => by
      have hb := below_drewN (Below.refl w7.heap.size w7) q
      have ord := HR.out.below hb
      have xd := (hb.block _ (Array.getElem?_eq_some_iff.1 HX1.out).1).trans HX1.out
      have hbx := row_setCell 1 (.slice none 0 0) xd
      exact ⟨by simpa using hbx, ⟨World.ownsRow_nil _ _ _ _, (ord.2.box xd (by decide) (by decide)).none⟩, ownsRow_setCell_other ord.1 (a := ⟨bx, 1, none⟩) (own_block_ne ord.1 xd (by decide)) _, apart_none _, rfl, Fp.refl _ _ _, Below.refl _ _, ⟨hlow.1, by simp; omega⟩, ⟨HLEN.out, hlen64⟩, rfl, ⟨hS.1, by simp; omega⟩⟩)
    have HSAME : Hid (∀ q x, x < w.heap.size → x ≠ bx → (Value.slice ao n ac).ownBlock ≠ some x → ((w7.drewN q).setCell ⟨bx, 1, none⟩ (.slice none 0 0)).heap[x]? = w.heap[x]?) := Lib.hid (fun q x h1 h2 h3 => by
      rw [Below.heap_setCell _ ⟨bx, 1, none⟩ _ x h2]
      exact HK.out x h1 h2 h3)
    have HBW : Hid (∀ q, Below B w ((w7.drewN q).setCell ⟨bx, 1, none⟩ (.slice none 0 0))) := Lib.hid (fun q => (below_drewN HB.out q).setCell (p := ⟨bx, 1, none⟩) hlow.1 _)
    have hL30 : L ≤ 30 := by have := HL.out; omega
    clear hK
    go_wp2_with fail
    go_quiet (fail)
    go_wp2_with fail
    refine (carry_any _ B bx s.k (s.n + 1) s.sl s.sl [] A s.lv 0 _ _ _ (HCA.out _) (by rw [HL.out]; exact hL30) (by omega) hS).mono ?_
    rintro e w9 ⟨rfl, u', hx9, ho9, hf9, hb9⟩
    have HFIN : Hid (∃ t' u', w9.heap[bx]? = some (.cells #[.int .i64 s.k, t', u', .int .i64 (s.n + 1), .int .i64 (addG s v).sl] 141 (0, 0)) ∧ OwnRk B w9 (addG s v) t' u' ∧ Fp2 w w9 bx (.slice ao n ac) (.slice uo L uc) t' u' ∧ Below B w w9) := Lib.hid (by
      rw [HADD.out]
      refine ⟨_, u', hx9, ho9, ⟨?_, fun x h1 h2 h3 h4 => ?_, fun b hb => by simp [Value.ownBlock] at hb, fun b hb => ?_⟩, (HBW.out _).trans hb9⟩
      · exact Nat.le_trans (by simpa using hsz7) hf9.size
      · rw [hf9.keep x (by simp; omega) h2 h4]
        exact HSAME.out _ x h1 h2 h3
      · rcases hf9.lies b hb with h5 | h5
        · exact Or.inl h5
        · exact Or.inr (by simp at h5; omega))
    clear hx9 ho9 hf9 hb9
    go_wp2_with fail
    refine ⟨rfl, .tuple #[], ?_, rfl, HFIN.out⟩
    simp [results, Try.results151, go_sem]
  · have t1 : (((n : Int) + 1) == s.k) = false := beq_eq_false_iff_ne.2 hK
    have t2 : (((n + 1 : Nat) : Int) == s.k) = false := beq_eq_false_iff_ne.2 (by omega)
    have HADD : Hid (addG s v = ⟨s.k, A, s.lv, s.n + 1, s.sl⟩) := Lib.hid (by unfold addG; rw [HA.out, if_neg (by rw [HAL.out]; omega)])
    go_wp2_with fail
    go_quiet (fail)
    go_wp2_with fail
    have HFIN : Hid (∀ q, ∃ t' u', (w7.drewN q).heap[bx]? = some (.cells #[.int .i64 s.k, t', u', .int .i64 (s.n + 1), .int .i64 (addG s v).sl] 141 (0, 0)) ∧ OwnRk B (w7.drewN q) (addG s v) t' u' ∧ Fp2 w (w7.drewN q) bx (.slice ao n ac) (.slice uo L uc) t' u' ∧ Below B w (w7.drewN q)) := Lib.hid (fun q => by
      rw [HADD.out]
      have hb := below_drewN (Below.refl w7.heap.size w7) q
      exact ⟨_, _, (hb.block _ (Array.getElem?_eq_some_iff.1 HX1.out).1).trans HX1.out, HR.out.below hb, ⟨hsz7, fun x h1 h2 h3 _ => HK.out x h1 h2 h3, HLT.out, fun b hb => Or.inl hb⟩, below_drewN HB.out q⟩)
    refine ⟨rfl, .tuple #[], ?_, rfl, HFIN.out _⟩
    simp [results, Try.results151, go_sem]
end Go.Proofs.Ytcljeedmiobepaa.Rk
