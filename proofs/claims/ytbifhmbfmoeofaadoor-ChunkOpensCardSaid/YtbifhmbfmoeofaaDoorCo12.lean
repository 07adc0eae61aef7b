/-
  The walk of MeasuresOf.
-/
import Derived.Test.YtbifhmbfmoeofaaDoorCo9
import Derived.Test.YtbifhmbfmoeofaaDoorCo11
namespace Go.Proofs.YtbifhmbfmoeofaaDoor.Xor
open Go.RowKit Go.Gh Go.Proofs.YtbifhmbfmoeofaaDoor.Bits Go.Proofs.YtbifhmbfmoeofaaDoor.Delta
set_option linter.unusedVariables false
/-- How far the reference's reading has come: the text's cell, the mark's cell, the row of what was read. -/
structure XAt (w : World) (cb bb base : Nat) (x : Rx) (out : List Int) (m : Nat) (u : Value) (wx : World) : Prop where
  box : wx.heap[cb]? = some (.cells #[.string (sbits x.s)] 9 (0, 0))
  mark : wx.heap[bb]? = some (.cells #[.bool x.bad] 4 (0, 0))
  own : wx.ownsRow base 63 1 u m (out.map (Value.int .u64))
  len : out.length = m
  bel : Below cb w wx
  size : base ≤ wx.heap.size
theorem XAt.cell {w : World} {cb bb base : Nat} {x : Rx} {out : List Int} {m : Nat} {u : Value} {wx : World} (h : XAt w cb bb base x out m u wx) : wx.cell? ⟨cb, 0, none⟩ = some (.string (sbits x.s)) ∧ wx.frozen? ⟨cb, 0, none⟩ = false ∧ wx.cell? ⟨bb, 0, none⟩ = some (.bool x.bad) ∧ wx.frozen? ⟨bb, 0, none⟩ = false :=
  ⟨(row_cell 0 _ h.box rfl).1, (row_cell 0 (.string (sbits x.s)) h.box rfl).2, (row_cell 0 _ h.mark rfl).1, (row_cell 0 (.bool x.bad) h.mark rfl).2⟩
theorem XAt.text {w : World} {cb bb base : Nat} {x : Rx} {out : List Int} {m : Nat} {u : Value} {wx : World} (h : XAt w cb bb base x out m u wx) (hb : cb < bb) (hb2 : bb < base) (s : List Bool) : XAt w cb bb base { x with s := s } out m u (wx.setCell ⟨cb, 0, none⟩ (.string (sbits s))) := by
  refine ⟨by simpa using row_setCell 0 (.string (sbits s)) h.box, row_setCell_other _ h.mark (by omega), ownsRow_setCell_other h.own (a := ⟨cb, 0, none⟩) (fun he => ?_) _, h.len, h.bel.setCell (p := ⟨cb, 0, none⟩) (Nat.le_refl _) _, by simpa using h.size⟩
  have := (h.own.lt _ he).1
  have h2 : (⟨cb, 0, none⟩ : Addr).block = cb := rfl
  omega
theorem XAt.short {w : World} {cb bb base : Nat} {x : Rx} {out : List Int} {m : Nat} {u : Value} {wx : World} (h : XAt w cb bb base x out m u wx) (hb : cb < bb) (hb2 : bb < base) : XAt w cb bb base { x with bad := true } out m u (wx.setCell ⟨bb, 0, none⟩ (.bool true)) := by
  refine ⟨row_setCell_other _ h.box (by omega), by simpa using row_setCell 0 (.bool true) h.mark, ownsRow_setCell_other h.own (a := ⟨bb, 0, none⟩) (fun he => ?_) _, h.len, h.bel.setCell (p := ⟨bb, 0, none⟩) (show cb ≤ bb by omega) _, by simpa using h.size⟩
  have := (h.own.lt _ he).1
  have h2 : (⟨bb, 0, none⟩ : Addr).block = bb := rfl
  omega
theorem XAt.below {w : World} {cb bb base : Nat} {x : Rx} {out : List Int} {m : Nat} {u : Value} {wx wy : World} (h : XAt w cb bb base x out m u wx) (hb : cb < bb) (hb2 : bb < base) (hy : Below wx.heap.size wx wy) : XAt w cb bb base x out m u wy :=
  ⟨(hy.block cb (Array.getElem?_eq_some_iff.1 h.box).1).trans h.box, (hy.block bb (Array.getElem?_eq_some_iff.1 h.mark).1).trans h.mark, own_below h.own hy, h.len, h.bel.trans (hy.mono (by have := h.size; omega)), Nat.le_trans h.size hy.size⟩
theorem XAt.app {w wx wy : World} {cb bb base : Nat} {x : Rx} {out : List Int} {m : Nat} {u v' : Value} {z : Int} (h : XAt w cb bb base x out m u wx) (hb : cb < bb) (hb2 : bb < base) (hown : wy.ownsRow base 63 1 v' (m + 1) (out.map (Value.int .u64) ++ [Value.int .u64 z])) (hg : wx.grownBy wy u.ownBlock) : XAt w cb bb base x (out ++ [z]) (m + 1) v' wy := by
  refine ⟨grown_block2 hg (fun he => by have := (h.own.lt _ he).1; omega) h.box, grown_block2 hg (fun he => by have := (h.own.lt _ he).1; omega) h.mark, by rw [List.map_append]; exact hown, by simp [h.len], Below.grown h.bel hg (by have := h.size; omega) (fun k hk => by have := (h.own.lt _ hk).1; omega), Nat.le_trans h.size hg.size⟩
theorem rbt_one (x : Rx) : rbt 1 x = [true] ∨ rbt 1 x = [false] := by
  unfold rbt tkX
  split
  · exact Or.inr rfl
  · cases hx : x.s with
    | nil => simp_all
    | cons b t => cases b <;> simp
theorem rbt_len (n : Nat) (x : Rx) (hn : 0 < n) : 0 < (rbt n x).length ∧ (rbt n x).length ≤ n := by
  unfold rbt tkX
  split
  · simp; omega
  · simp; omega
theorem rtk_len (n : Nat) (x : Rx) : (rtk n x).s.length ≤ x.s.length := by
  unfold rtk tkX
  split
  · exact Nat.le_refl _
  · simp
theorem take_x {w wr : World} {cb bb base : Nat} {x : Rx} {out : List Int} {m : Nat} {u : Value} (n : Nat) (h : XAt w cb bb base x out m u wr) (hn : n ≤ 64) (hs : x.s.length ≤ 4000) (hb : cb < bb) (hb2 : bb < base) :
    Calls Tryd.prog 51 #[.int .i64 n, .pointer (some ⟨cb, 0, none⟩), .pointer (some ⟨bb, 0, none⟩)] wr fun e w' => e = .returned (.string (sbits (rbt n x))) ∧ XAt w cb bb base (rtk n x) out m u w' := by
  obtain ⟨x0, f0, x1, f1⟩ := h.cell
  have hsz : (sbits x.s).size = x.s.length := sbits_size x.s
  by_cases hlt : x.s.length < n
  · have HF : Hid (rbt n x = [false] ∧ rtk n x = { x with bad := true }) := Lib.hid ⟨by unfold rbt tkX; rw [if_pos hlt], by unfold rtk tkX; rw [if_pos hlt]⟩
    have HX := Lib.hid (h.short hb hb2)
    clear h
    go_enter Tryd.func51, Tryd.ntmps51
    go_wp2_with fail
    go_ret
    rw [HF.out.1, HF.out.2]
    exact ⟨rfl, HX.out⟩
  · have HF : Hid (rbt n x = x.s.take n ∧ rtk n x = { x with s := x.s.drop n }) := Lib.hid ⟨by unfold rbt tkX; rw [if_neg hlt], by unfold rtk tkX; rw [if_neg hlt]⟩
    have h1 : n ≤ (sbits x.s).size := by omega
    have HA : Hid ((sbits x.s).extract 0 n = sbits (x.s.take n)) := Lib.hid (by rw [sbits_mid]; simp)
    have HB : Hid ((sbits x.s).extract n x.s.length = sbits (x.s.drop n)) := Lib.hid (by rw [sbits_mid, List.take_of_length_le (by simp)])
    have HX := Lib.hid (h.text hb hb2 (x.s.drop n))
    clear h
    go_enter Tryd.func51, Tryd.ntmps51
    go_wp2_with fail
    go_ret
    rw [HF.out.1, HF.out.2, HB.out]
    exact ⟨by rw [HA.out]; rfl, HX.out⟩
/-- The window's bounds. -/
def BX (x : Rx) : Prop := -1 ≤ x.ld ∧ x.ld ≤ 63 ∧ 0 ≤ x.sz ∧ x.sz ≤ 64 ∧ x.s.length ≤ 4000
theorem BX.take {x : Rx} (h : BX x) (n : Nat) : BX (rtk n x) := ⟨h.1, h.2.1, h.2.2.1, h.2.2.2.1, Nat.le_trans (rtk_len n x) h.2.2.2.2⟩
theorem rbt_val6 (x : Rx) : 0 ≤ valF 0 (rbt 6 x) ∧ valF 0 (rbt 6 x) ≤ 63 := by
  have h := valF_bd (rbt 6 x)
  have hl := (rbt_len 6 x (by decide)).2
  have h1 : 2 ^ (rbt 6 x).length ≤ 2 ^ 6 := Nat.pow_le_pow_right (by decide) hl
  have h3 : 2 ^ 6 = 64 := by decide
  rw [two_pow_cast] at h
  omega
def okXR (s : List Bool) : Prop := ∃ o, unxR s = some (o, false) ∧ o.length ≤ 1000 ∧ (msTo o o.length).1 = s
def XPost (s : List Bool) (w : World) (e : Ending) (w' : World) : Prop :=
  Below w.heap.size w w' ∧ ((∃ o v n, unxR s = some (o, false) ∧ o.length ≤ 1000 ∧ (msTo o o.length).1 = s ∧ e = .returned (.tuple #[v, .bool true]) ∧ Sl w' 1 v n (o.map (Value.int .u64)) ∧ o.length = n) ∨ (¬ okXR s ∧ ∃ v, e = .returned (.tuple #[v, .bool false])))
set_option maxHeartbeats 8000000 in
set_option maxRecDepth 100000 in
theorem measuresof_any (s : List Bool) (hs : s.length ≤ 4000) (w : World) :
    Calls Tryd.prog 29 #[.string (sbits s)] w (XPost s w) := by
  have hmf : ∀ (fn : Fn) (first cap : Array Value) (w : World), (Instr.makeFunc fn first cap).run Tryd.prog w = .ok (.func fn first cap) w := fun _ _ _ _ => rfl
  go_enter Tryd.func29, Tryd.ntmps29
  go_upto_region 3 with (fail)
  refine wp_abs (fun wA => wA.heap[w.heap.size]? = some (.cells #[.string (sbits s)] 9 (0, 0)) ∧ wA.heap[w.heap.size + 1]? = some (.cells #[.bool false] 4 (0, 0)) ∧ Below w.heap.size w wA ∧ w.heap.size + 2 ≤ wA.heap.size) ⟨two_first w _ _, two_second w _ _, ((Below.refl _ _).alloc (Nat.le_refl _) _).alloc (by simp) _, by simp⟩ ?_
  rintro wA ⟨hA0, hA1, hAb, hAs⟩
  obtain ⟨cb, hcb⟩ : ∃ cb, w.heap.size = cb := ⟨_, rfl⟩
  have HCB := Lib.hid hcb
  rw [hcb] at hA0 hA1 hAb hAs ⊢
  obtain ⟨bb, hbb⟩ : ∃ bb, cb + 1 = bb := ⟨_, rfl⟩
  rw [hbb] at hA1 ⊢
  obtain ⟨base, hbase⟩ : ∃ base, cb + 2 = base := ⟨_, rfl⟩
  have hlt : cb < bb := by omega
  have hlt2 : bb < base := by omega
  rw [hbase] at hAs
  have hXA : XAt w cb bb base { s := s, bad := false, ld := -1, sz := 0 } [] 0 (.slice none 0 0) wA := ⟨hA0, hA1, World.ownsRow_nil _ _ _ _, rfl, hAb, hAs⟩
  have HC16 := take_x 16 hXA (by decide) hs hlt hlt2
  have hl16 := (rbt_len 16 { s := s, bad := false, ld := -1, sz := 0 } (by decide)).2
  have HBX0 : Hid (BX (rtk 16 { s := s, bad := false, ld := -1, sz := 0 })) := Lib.hid (BX.take ⟨by simp, by simp, by simp, by simp, hs⟩ 16)
  clear hXA hA0 hA1 hAb hAs hbase hcb hbb
  obtain ⟨b16, hb16⟩ : ∃ b, rbt 16 { s := s, bad := false, ld := -1, sz := 0 } = b := ⟨_, rfl⟩
  obtain ⟨x16, hx16⟩ : ∃ b, rtk 16 { s := s, bad := false, ld := -1, sz := 0 } = b := ⟨_, rfl⟩
  have hld : x16.ld = -1 ∧ x16.sz = 0 := by rw [← hx16]; exact ⟨rfl, rfl⟩
  have hV := valF_bd b16
  obtain ⟨K, hK⟩ : ∃ K : Nat, valF 0 b16 = K := ⟨(valF 0 b16).toNat, (Int.toNat_of_nonneg hV.1).symm⟩
  obtain ⟨RES, hRES⟩ : ∃ o, unxR s = o := ⟨_, rfl⟩
  have HO := Lib.hid hRES
  have HG0 : Hid (gxR K 0 [] x16 = RES) := Lib.hid (by rw [← hRES]; unfold unxR; rw [hb16, hx16, hK, Int.toNat_natCast])
  rw [hb16] at hl16
  rw [hb16, hx16] at HC16
  rw [hx16] at HBX0
  have hKb : K < 65536 := by
    have h1 : 2 ^ b16.length ≤ 2 ^ 16 := Nat.pow_le_pow_right (by decide) hl16
    have h2 := hV.2
    rw [two_pow_cast, hK] at h2
    have h3 : 2 ^ 16 = 65536 := by decide
    omega
  have HCC := Lib.hid HC16
  have HV16 := valueof_any b16 (by omega)
  rw [hK] at HV16
  obtain ⟨hl1, hl2⟩ := hld
  clear HC16 hV hb16 hx16 hRES hl16 hK
  go_wp2_with fail
  refine HCC.out.mono ?_
  rintro e w4 ⟨rfl, hX4⟩
  have HX4 := Lib.hid hX4
  clear hX4 HCC
  go_wp2_with fail
  refine (HV16 _).mono ?_
  rintro e w5 ⟨rfl, rfl⟩
  clear HV16
  go_upto_block 0 with fail
  go_cut [7] (fun u wx => ∃ m out x, m ≤ K ∧ Hid (RES = some (out, x.bad)) ∧ Hid (XAt w cb bb base x out m u wx))
  case first =>
    go_wp2_with fail
    go_loopw [7, 9, 10, 11] (fun u a b i wx => ∃ (j f : Nat) (out : List Int) (x : Rx), j + f = K ∧ i = .int .i64 j ∧ a = .int .i64 x.ld ∧ b = .int .i64 x.sz ∧ Hid (BX x) ∧ Hid (AllU out) ∧ Hid (gxR f j out x = RES) ∧ Hid (XAt w cb bb base x out j u wx)) (fun _ _ _ i _ => K - (intOf i).toNat)
    case atStart => exact ⟨0, K, [], x16, by omega, rfl, by rw [hl1], by rw [hl2], HBX0, Lib.hid (fun z hz => by simp at hz), HG0, HX4⟩
    case round =>
      obtain ⟨j, f, out, x, hjf, rfl, rfl, rfl, HB, HAU, HG, HP⟩ := hrel
      obtain ⟨x0, f0, x1, f1⟩ := HP.out.cell
      clear hl1 hl2
      cases f with
      | zero =>
        obtain rfl : j = K := by omega
        have HE := Lib.hid (HG.out.symm.trans (by rw [gxR]))
        clear HG
        go_wp2_with fail
        go_meet
        exact ⟨_, _, x, by omega, HE, HP⟩
      | succ f =>
        have hjK : j < K := by omega
        have hj8 : (j + 1) * 8 ≤ 140737488355328 := by omega
        have h1 := HG.out
        rw [gxR] at h1
        clear HG
        by_cases hbad : x.bad = true
        · rw [if_pos hbad] at h1
          have HE := Lib.hid h1.symm
          rw [hbad] at x1
          clear h1 hbad
          go_wp2_with fail
          go_meet
          exact ⟨_, _, x, by omega, HE, HP⟩
        · rw [if_neg hbad] at h1
          have hbf : x.bad = false := by simpa using hbad
          rw [hbf] at x1
          clear hbad hbf
          by_cases hj0 : j = 0
          · subst hj0
            rw [if_pos rfl] at h1
            have HC := take_x 64 HP.out (by decide) HB.out.2.2.2.2 hlt hlt2
            have hvu := rbt_u (n := 64) (by decide) x
            have hl64 := (rbt_len 64 x (by decide)).2
            have HB2 : Hid (BX (rtk 64 x)) := Lib.hid (HB.out.take 64)
            obtain ⟨b2, hb2⟩ : ∃ b, rbt 64 x = b := ⟨_, rfl⟩
            obtain ⟨V, hV⟩ : ∃ V, valF 0 b2 = V := ⟨_, rfl⟩
            rw [hb2] at HC h1 hvu hl64
            rw [hV] at h1 hvu
            have HVV := valueof_any b2 hl64
            rw [hV] at HVV
            have HCC := Lib.hid HC
            have HG3 := Lib.hid h1
            have HAU2 := Lib.hid (allU_snoc HAU.out hvu)
            clear HC h1 hV hb2 hvu
            go_wp2_with fail
            refine HCC.out.mono ?_
            rintro e w6 ⟨rfl, hP5⟩
            have HP5 := Lib.hid hP5
            clear hP5 HCC
            go_wp2_with fail
            refine (HVV _).mono ?_
            rintro e w7 ⟨rfl, rfl⟩
            have hown := HP5.out.own
            have hsz2 := HP5.out.size
            clear HVV x0 f0 x1 f1
            go_wp2_with (at_builtin; refine append1 [Value.int .u64 V] elU64 rfl _ _ rfl hown (Below.refl base _) hsz2 rfl rfl rfl (by intro u hu; simp at hu; subst hu; rfl) ?c4 ?c5 ?_)
            case c4 => omega
            case c5 => omega
            intro v' w8 hown8 _ hg8
            have HP6 := Lib.hid (HP5.out.app hlt hlt2 hown8 hg8)
            clear hown8 hg8 hown
            go_wp2_with fail
            go_roundw
            case rel => exact ⟨0 + 1, f, _, rtk 64 x, by omega, by go_num, rfl, rfl, HB2, HAU2, HG3, HP6⟩
            case measure => simp [intOf]; omega
          · rw [if_neg hj0] at h1
            have hjb : ((j : Int) == 0) = false := by rw [beq_eq_false_iff_ne]; omega
            have H1 := Lib.hid h1
            clear h1
            obtain ⟨uo, uc, rfl, _, _, _⟩ := own_shape HP.out.own
            obtain ⟨I1, hI1⟩ : ∃ I : Nat, (j : Int) - 1 = I := ⟨j - 1, by omega⟩
            have hI1n : I1 = j - 1 := by omega
            have hI1j : I1 < j := by omega
            obtain ⟨b1, off1, rfl, hc1⟩ := (own_sl HP.out.own).int (i := I1) hI1j
            have hlu := allU_get HAU.out I1
            obtain ⟨LA, hLA⟩ : ∃ A, out.getD I1 0 = A := ⟨_, rfl⟩
            have HLA : Hid (out.getD (j - 1) 0 = LA) := Lib.hid (by rw [← hI1n]; exact hLA)
            rw [hLA] at hc1 hlu
            have HLU := Lib.hid hlu
            have HC1 := Lib.hid (take_x 1 HP.out (by decide) HB.out.2.2.2.2 hlt hlt2)
            have HB1 : Hid (BX (rtk 1 x)) := Lib.hid (HB.out.take 1)
            have h11 := rbt_one x
            clear hLA hlu hI1n hj0
            obtain ⟨D, hD⟩ : ∃ D, ((sbits (rbt 1 x)).toList == [49]) = D := ⟨_, rfl⟩
            have HD := Lib.hid hD
            go_wp2_with fail
            refine HC1.out.mono ?_
            rintro e w6 ⟨rfl, hP1⟩
            have HP1 := Lib.hid hP1
            clear hP1 HC1 x0 f0 x1 f1 hc1
            go_upto_if 44 with (fail)
            clear hD
            go_cut [9, 10, 12] (fun a b c wx => ∃ (x2 : Rx) (v2 : Int), a = .int .i64 x2.ld ∧ b = .int .i64 x2.sz ∧ c = .int .u64 v2 ∧ Hid (BX x2) ∧ Hid (U64 v2) ∧ Hid (gxR f (j + 1) (out ++ [v2]) x2 = RES) ∧ Hid (XAt w cb bb base x2 out j (.slice (some ⟨b1, off1, none⟩) j uc) wx))
            case first =>
              rcases h11 with h11 | h11
              case inr =>
                have hD2 : D = false := by rw [← HD.out, h11]; exact cmp0
                subst hD2
                have HG3 := H1.out
                rw [if_neg (by rw [h11]; simp), HLA.out] at HG3
                have HG4 := Lib.hid HG3
                clear HG3
                go_wp2_with fail
                go_meet
                exact ⟨rtk 1 x, LA, rfl, rfl, rfl, HB1, HLU, HG4, HP1⟩
              case inl =>
                have hD2 : D = true := by rw [← HD.out, h11]; exact cmp1
                subst hD2
                have HG3 := H1.out
                rw [if_pos h11, HLA.out] at HG3
                have HG4 := Lib.hid HG3
                clear HG3 H1 HD h11
                have HC2 := Lib.hid (take_x 1 HP1.out (by decide) HB1.out.2.2.2.2 hlt hlt2)
                have HB2 : Hid (BX (rtk 1 (rtk 1 x))) := Lib.hid (HB1.out.take 1)
                have h12 := rbt_one (rtk 1 x)
                obtain ⟨D2, hDD⟩ : ∃ D, ((sbits (rbt 1 (rtk 1 x))).toList == [49]) = D := ⟨_, rfl⟩
                have HDD := Lib.hid hDD
                go_wp2_with fail
                refine HC2.out.mono ?_
                rintro e w7 ⟨rfl, hP2⟩
                have HP2 := Lib.hid hP2
                clear hP2 HC2
                go_upto_if 47 with (fail)
                clear hDD
                go_cut [9, 10] (fun a b wx => ∃ (x3 : Rx), a = .int .i64 x3.ld ∧ b = .int .i64 x3.sz ∧ Hid (BX x3) ∧ Hid (opnR (rtk 1 x) = x3) ∧ Hid (XAt w cb bb base x3 out j (.slice (some ⟨b1, off1, none⟩) j uc) wx))
                case first =>
                  rcases h12 with h12 | h12
                  case inr =>
                    have hD3 : D2 = false := by rw [← HDD.out, h12]; exact cmp0
                    subst hD3
                    have HOP : Hid (opnR (rtk 1 x) = rtk 1 (rtk 1 x)) := Lib.hid (by unfold opnR; rw [if_neg (by rw [h12]; simp)])
                    go_wp2_with fail
                    go_meet
                    exact ⟨rtk 1 (rtk 1 x), rfl, rfl, HB2, HOP, HP2⟩
                  case inl =>
                    have hD3 : D2 = true := by rw [← HDD.out, h12]; exact cmp1
                    subst hD3
                    obtain ⟨y, hy⟩ : ∃ y, rtk 1 (rtk 1 x) = y := ⟨_, rfl⟩
                    have HOP : Hid (opnR (rtk 1 x) = { rtk 6 (rtk 6 y) with ld := valF 0 (rbt 6 y), sz := valF 0 (rbt 6 (rtk 6 y)) + 1 }) := Lib.hid (by unfold opnR; rw [if_pos h12, hy])
                    rw [hy] at HB2 HP2
                    clear h12 HDD hy
                    have HC3 := Lib.hid (take_x 6 HP2.out (by decide) HB2.out.2.2.2.2 hlt hlt2)
                    have HB3 : Hid (BX (rtk 6 y)) := Lib.hid (HB2.out.take 6)
                    have hv3 := rbt_val6 y
                    have HV3 := valueof_any (rbt 6 y) (by have := (rbt_len 6 y (by decide)).2; omega)
                    have hv4 := rbt_val6 (rtk 6 y)
                    have HV4 := valueof_any (rbt 6 (rtk 6 y)) (by have := (rbt_len 6 (rtk 6 y) (by decide)).2; omega)
                    obtain ⟨A, hA⟩ : ∃ A, valF 0 (rbt 6 y) = A := ⟨_, rfl⟩
                    obtain ⟨B, hB⟩ : ∃ A, valF 0 (rbt 6 (rtk 6 y)) = A := ⟨_, rfl⟩
                    rw [hA] at hv3 HV3 HOP
                    rw [hB] at hv4 HV4 HOP
                    clear hA hB
                    go_wp2_with fail
                    refine HC3.out.mono ?_
                    rintro e w8 ⟨rfl, hP3⟩
                    have HP3 := Lib.hid hP3
                    clear hP3 HC3
                    go_wp2_with fail
                    refine (HV3 _).mono ?_
                    rintro e w9 ⟨rfl, rfl⟩
                    have HC4 := Lib.hid (take_x 6 HP3.out (by decide) HB3.out.2.2.2.2 hlt hlt2)
                    have HB4 : Hid (BX (rtk 6 (rtk 6 y))) := Lib.hid (HB3.out.take 6)
                    go_wp2_with fail
                    refine HC4.out.mono ?_
                    rintro e w9 ⟨rfl, hP4⟩
                    have HP4 := Lib.hid hP4
                    clear hP4 HC4
                    go_wp2_with fail
                    refine (HV4 _).mono ?_
                    rintro e w10 ⟨rfl, rfl⟩
                    have HP5 : Hid (XAt w cb bb base { rtk 6 (rtk 6 y) with ld := A, sz := B + 1 } out j (.slice (some ⟨b1, off1, none⟩) j uc) w9) := Lib.hid ⟨HP4.out.box, HP4.out.mark, HP4.out.own, HP4.out.len, HP4.out.bel, HP4.out.size⟩
                    have HB5 : Hid (BX { rtk 6 (rtk 6 y) with ld := A, sz := B + 1 }) := Lib.hid ⟨by simp only; omega, by simp only; omega, by simp only; omega, by simp only; omega, HB4.out.2.2.2.2⟩
                    go_wp2_with fail
                    go_meet
                    exact ⟨{ rtk 6 (rtk 6 y) with ld := A, sz := B + 1 }, rfl, rfl, HB5, HOP, HP5⟩
                obtain ⟨x3, rfl, rfl, HB3, HOP, HP3⟩ := hcut
                clear HB2 HP2 h12 HDD
                have HG5 := HG4.out
                rw [HOP.out] at HG5
                have hbx := HB3.out
                obtain ⟨hb1, hb2, hb3, hb4, hb5⟩ := hbx
                by_cases hok : okW x3
                case neg =>
                  rw [if_neg hok] at HG5
                  have HNO : Hid (¬ okXR s) := Lib.hid (by
                    rintro ⟨o, h, _⟩
                    rw [HO.out, ← HG5] at h
                    simp at h)
                  have hBel := HP3.out.bel
                  by_cases hneg : x3.ld < 0
                  · clear hok HG5
                    go_wp2_with fail
                    go_ret2
                    exact ⟨by rw [HCB.out]; exact hBel, Or.inr ⟨HNO.out, _, rfl⟩⟩
                  · have hgt : 64 < x3.ld + x3.sz := by
                      unfold okW at hok
                      omega
                    clear hok HG5
                    go_wp2_with fail
                    go_ret2
                    exact ⟨by rw [HCB.out]; exact hBel, Or.inr ⟨HNO.out, _, rfl⟩⟩
                case pos =>
                  rw [if_pos hok] at HG5
                  obtain ⟨ho1, ho2⟩ := hok
                  obtain ⟨n, hn⟩ : ∃ n : Nat, x3.sz = n := ⟨x3.sz.toNat, by omega⟩
                  obtain ⟨n2, hn2⟩ : ∃ n2 : Nat, 64 - x3.ld - n = n2 := ⟨(64 - x3.ld - n).toNat, by omega⟩
                  have hn64 : n ≤ 64 := by omega
                  have HC4 := Lib.hid (take_x n HP3.out hn64 hb5 hlt hlt2)
                  have HB4 : Hid (BX (rtk n x3)) := Lib.hid (HB3.out.take n)
                  have hlb : (rbt n x3).length ≤ 64 := by
                    unfold rbt tkX
                    split
                    · simp
                    · simp; omega
                  have HV4 := valueof_any (rbt n x3) hlb
                  have hvu := rbt_u hn64 x3
                  rw [hn, Int.toNat_natCast, hn2, Int.toNat_natCast] at HG5
                  obtain ⟨V, hV⟩ : ∃ V, valF 0 (rbt n x3) = V := ⟨_, rfl⟩
                  rw [hV] at HV4 hvu HG5
                  have HG6 := Lib.hid HG5
                  have HVU := Lib.hid hvu
                  have HLDS : Hid ((rtk n x3).ld = x3.ld ∧ (rtk n x3).sz = x3.sz) := Lib.hid ⟨rfl, rfl⟩
                  rw [hn]
                  clear HG5 hV hvu HG4 HOP hlb
                  go_wp2_with fail
                  refine HC4.out.mono ?_
                  rintro e w8 ⟨rfl, hP4⟩
                  have HP4 := Lib.hid hP4
                  clear hP4 HC4
                  go_wp2_with fail
                  refine (HV4 _).mono ?_
                  rintro e w9 ⟨rfl, rfl⟩
                  go_wp2_with fail
                  go_loopw [13, 73] (fun t i wx => ∃ q : Nat, q ≤ n2 ∧ i = .int .i64 q ∧ t = .int .u64 (dbl V q) ∧ Hid (XAt w cb bb base (rtk n x3) out j (.slice (some ⟨b1, off1, none⟩) j uc) wx)) (fun _ i _ => n2 - (intOf i).toNat)
                  case atStart => exact ⟨0, by omega, rfl, rfl, HP4⟩
                  case round =>
                    obtain ⟨q, hq, rfl, rfl, HPQ⟩ := hrel
                    by_cases hlt3 : q < n2
                    · have hz := dbl_u HVU.out q
                      have HN : Hid (dbl V (q + 1) = wU (dbl V q * 2)) := Lib.hid (by rw [dbl])
                      unfold U64 at hz
                      generalize dbl V q = z at *
                      go_wp2_with fail
                      go_roundw
                      case rel => exact ⟨q + 1, by omega, by go_num, by rw [HN.out]; rfl, HPQ⟩
                      case measure => simp [intOf]; omega
                    · obtain rfl : q = n2 := by omega
                      have HTU := Lib.hid (xor_u HLU.out (dbl_u HVU.out q))
                      generalize dbl V q = T at *
                      go_wp2_with fail
                      go_meet
                      exact ⟨rtk n x3, xorI LA T, rfl, by show Value.int .i64 (n : Int) = Value.int .i64 x3.sz; rw [hn], rfl, HB4, HTU, HG6, HPQ⟩
            obtain ⟨x2, v2, rfl, rfl, rfl, HB2, HVU, HG3, HP2⟩ := hcut
            have HAU2 := Lib.hid (allU_snoc HAU.out HVU.out)
            have hown := HP2.out.own
            have hsz2 := HP2.out.size
            go_wp2_with (at_builtin; refine append1 [Value.int .u64 v2] elU64 rfl _ _ rfl hown (Below.refl base _) hsz2 rfl rfl rfl (by intro u hu; simp at hu; subst hu; rfl) ?c4 ?c5 ?_)
            case c4 => omega
            case c5 => omega
            intro v' w8 hown8 _ hg8
            have HP6 := Lib.hid (HP2.out.app hlt hlt2 hown8 hg8)
            clear hown8 hg8 hown
            go_wp2_with fail
            go_roundw
            case rel => exact ⟨j + 1, f, _, x2, by omega, by go_num, rfl, rfl, HB2, HAU2, HG3, HP6⟩
            case measure => simp [intOf]; omega
  case rest =>
    obtain ⟨m, out, x, hmK, HE, HP⟩ := hcut
    obtain ⟨x0, f0, x1, f1⟩ := HP.out.cell
    have HOUT := Lib.hid (own_sl HP.out.own)
    obtain ⟨uo, uc, rfl, _, _, _⟩ := HOUT.out.shape
    have HLO := Lib.hid HP.out.len
    have hBel := HP.out.bel
    have hszc : cb ≤ wc.heap.size := by have := HP.out.size; omega
    have HUX : Hid (unxR s = some (out, x.bad)) := Lib.hid (by rw [HO.out, HE.out])
    clear HP x0 f0 f1 hl1 hl2
    by_cases hbad : x.bad = true
    · have HNO : Hid (¬ okXR s) := Lib.hid (by
        rintro ⟨o, h, _⟩
        rw [HUX.out] at h
        have h2 : x.bad = false := congrArg Prod.snd (Option.some.inj h)
        rw [hbad] at h2
        simp at h2)
      rw [hbad] at x1
      clear hbad
      go_wp2_with fail
      go_ret2
      exact ⟨by rw [HCB.out]; exact hBel, Or.inr ⟨HNO.out, _, rfl⟩⟩
    · have hbf : x.bad = false := by simpa using hbad
      rw [hbf] at x1
      have HUX2 : Hid (unxR s = some (out, false)) := Lib.hid (by rw [HUX.out, hbf])
      clear hbad hbf HUX
      by_cases hbig : 1000 < m
      · have HNO : Hid (¬ okXR s) := Lib.hid (by
          rintro ⟨o, h, h2, _⟩
          rw [HUX2.out] at h
          have h3 : out = o := congrArg Prod.fst (Option.some.inj h)
          rw [← h3] at h2
          have := HLO.out
          omega)
        go_wp2_with fail
        go_ret2
        exact ⟨by rw [HCB.out]; exact hBel, Or.inr ⟨HNO.out, _, rfl⟩⟩
      · have hm1 : m ≤ 1000 := by omega
        have hall : AllU out := unxR_all HUX2.out
        have HWO : Hid (∀ z ∈ out, (Lit.int .u64 z).wf = true) := Lib.hid fun z hz => by
          have := hall z hz
          unfold U64 at this
          exact wf_u64_of this.1 this.2
        obtain ⟨ts, hts⟩ : ∃ ts, (msTo out m).1 = ts := ⟨_, rfl⟩
        have HTS := measuresigns_any _ m out wc HOUT.out HLO.out HWO.out hm1
        rw [hts] at HTS
        have HTT := Lib.hid HTS
        have HMS := Lib.hid hts
        have hcmp := sbits_cmp ts s
        clear HTS hts hbig hall
        by_cases heq : ts = s
        · rw [decide_eq_true heq] at hcmp
          have HEQ := Lib.hid heq
          clear heq
          go_wp2_with fail
          refine HTT.out.mono ?_
          rintro e w7 ⟨rfl, hb7⟩
          go_wp2_with fail
          go_ret2
          exact ⟨by rw [HCB.out]; exact hBel.trans (hb7.mono hszc), Or.inl ⟨out, _, m, HUX2.out, by rw [HLO.out]; exact hm1, by rw [HLO.out, HMS.out, HEQ.out], rfl, HOUT.out.below hb7, HLO.out⟩⟩
        · rw [decide_eq_false heq] at hcmp
          have HNO : Hid (¬ okXR s) := Lib.hid (by
            rintro ⟨o, h, _, h2⟩
            rw [HUX2.out] at h
            have h3 : out = o := congrArg Prod.fst (Option.some.inj h)
            rw [← h3, HLO.out, HMS.out] at h2
            exact heq h2)
          clear heq
          go_wp2_with fail
          refine HTT.out.mono ?_
          rintro e w7 ⟨rfl, hb7⟩
          go_wp2_with fail
          go_ret2
          exact ⟨by rw [HCB.out]; exact hBel.trans (hb7.mono hszc), Or.inr ⟨HNO.out, _, rfl⟩⟩
end Go.Proofs.YtbifhmbfmoeofaaDoor.Xor
/-
  The walk of chunk.Open.
-/
namespace Go.Proofs.YtbifhmbfmoeofaaDoor.Opn
open Go.RowKit Go.Gh Go.Proofs.YtbifhmbfmoeofaaDoor.Bits Go.Proofs.YtbifhmbfmoeofaaDoor.Delta Go.Proofs.YtbifhmbfmoeofaaDoor.Sam Go.Proofs.YtbifhmbfmoeofaaDoor.Smp Go.Proofs.YtbifhmbfmoeofaaDoor.Seal
set_option linter.unusedVariables false
def Good (b : List Int) (out : List (List Int)) : Prop := parsed b = some out ∧ sampF out = 0 ∧ sealF out = b
open Classical in
theorem parsed_eq {b x r y r2 : List Int} {n m : Nat} (h1 : partF b = some (x, n, r)) (h2 : partF r = some (y, m, r2)) :
    parsed b = if okB x n ∧ okB y m ∧ r2 = [] ∧ okI (unpack x n) ∧ okXI (unpack y m) ∧ (unpI (unpack x n)).1.length = (unxI (unpack y m)).1.length then some (zipR (unpI (unpack x n)).1 (unxI (unpack y m)).1) else none := by
  unfold parsed stepF
  rw [h1]
  by_cases a : okB x n
  · by_cases c : okB y m
    · simp only [a, h2, c, if_true, true_and]
    · simp only [a, h2, c, if_true, if_false, false_and, true_and]
  · simp only [a, false_and, if_false]
theorem parsed_none1 {b : List Int} (h : partF b = none) : parsed b = none := by
  unfold parsed stepF
  rw [h]
theorem parsed_none2 {b x r : List Int} {n : Nat} (h : partF b = some (x, n, r)) (h2 : partF r = none) : parsed b = none := by
  unfold parsed stepF
  rw [h]
  by_cases a : okB x n
  · simp only [a, h2, if_true]
  · simp only [a, if_false]
theorem zipR_len (t v : List Int) : (zipR t v).length = t.length := by unfold zipR; simp
theorem zipR_rows {t v : List Int} (ht : AllI t) : Rows64 2 (zipR t v) := by
  intro r hr
  unfold zipR at hr
  obtain ⟨i, hi, rfl⟩ := List.mem_map.1 hr
  refine ⟨rfl, fun z hz => ?_⟩
  have h1 := allI_get ht i
  have h2 := Go.Gh.wI_bd (v.getD i 0)
  unfold I64 at h1 h2
  simp at hz
  rcases hz with rfl | rfl
  · simp [Lit.wf, IntKind.min, IntKind.max, IntKind.signed, IntKind.bits]
    rw [List.getD_eq_getElem?_getD] at h1
    omega
  · simp [Lit.wf, IntKind.min, IntKind.max, IntKind.signed, IntKind.bits]
    rw [List.getD_eq_getElem?_getD] at h2
    omega
theorem zipR_snoc (t v : List Int) {k : Nat} (h : k < t.length) : (zipR t v).take (k + 1) = (zipR t v).take k ++ [[t.getD k 0, wI (v.getD k 0)]] := by
  unfold zipR
  rw [take_snoc _ (by simpa using h)]
  simp
def OpenPost (w : World) (b : List Int) (e : Ending) (w' : World) : Prop :=
  Below w.heap.size w w' ∧ ((∃ out v n, Good b out ∧ e = .returned (.tuple #[v, .int .i64 0]) ∧ Sl w' 2 v n (rowCells out) ∧ out.length = n ∧ RowsK 2 out) ∨ ((∀ out, ¬ Good b out) ∧ e = .returned (.tuple #[.slice none 0 0, .int .i64 4])))
theorem open_bad {w w' : World} {b : List Int} (hb : Below w.heap.size w w') (h : ∀ out, ¬ Good b out) : OpenPost w b (.returned (.tuple #[.slice none 0 0, .int .i64 4])) w' := ⟨hb, Or.inr ⟨h, rfl⟩⟩
theorem not_good {b : List Int} (h : parsed b = none) : ∀ out, ¬ Good b out := fun out hg => by
  have := hg.1
  rw [h] at this
  exact absurd this (by simp)
theorem part_nil : partF [] = none := by unfold partF; simp [takeS]
set_option maxHeartbeats 8000000 in
set_option maxRecDepth 100000 in
theorem open_any (v : Value) (m : Nat) (b : List Int) (w : World) (hv : Sl w 1 v m (b.map (Value.int .u8))) (hl : b.length = m) (hb : Bytes b) (hm : m ≤ 400) (hT : Table w) (hX : Xor.TabX w) (h2 : 2 ≤ w.heap.size) :
    Calls Tryd.prog 14 #[v] w (OpenPost w b) := by
  obtain ⟨ao, c, rfl, hmc, hcc, _⟩ := hv.shape
  have HV := Lib.hid hv
  have HB := Lib.hid hb
  have HL := Lib.hid hl
  have HT := Lib.hid hT
  have HX := Lib.hid hX
  have HH2 := Lib.hid h2
  have HPA := Lib.hid (part_any _ m b w hv hl hb (by omega))
  clear hv hb hl hT hX h2
  go_enter Tryd.func14, Tryd.ntmps14
  go_wp2_with fail
  refine HPA.out.mono ?_
  rintro e w1 ⟨hb1, ⟨hp, rfl⟩ | ⟨x, n, r, xv, rv, hp, rfl, hxs, hrs, hbx, hbr, hn, hxr⟩⟩
  · have HB1 := Lib.hid hb1
    have HNG := Lib.hid (not_good (parsed_none1 hp))
    clear hb1 hp
    have hba : Below w1.heap.size w1 (w1.alloc (.cells #[.slice none 0 0, .int .i64 0] 39)) := (Below.refl _ _).alloc (Nat.le_refl _) _
    have HBA := Lib.hid (HB1.out.trans (hba.mono HB1.out.size))
    clear hba
    go_wp2_with fail
    refine (part_any (.slice none 0 0) 0 [] _ (sl_nil _ 1) rfl (by intro z hz; simp at hz) (by omega)).mono ?_
    rintro e w2 ⟨hb2, ⟨hp2, rfl⟩ | ⟨x, n, r, xv, rv, hp2, _⟩⟩
    · have HB2 := Lib.hid (HBA.out.trans (hb2.mono HBA.out.size))
      have HB3 : Hid (Below w.heap.size w (w2.alloc (.cells #[.slice none 0 0, .int .i64 0] 39))) := Lib.hid (HB2.out.alloc HB2.out.size _)
      clear hb2
      go_wp2_with fail
      go_ret2
      exact open_bad HB3.out HNG.out
    · rw [part_nil] at hp2; exact absurd hp2 (by simp)
  obtain ⟨xo, xc, rfl, _⟩ := hxs.shape
  obtain ⟨ro, rc, rfl, _⟩ := hrs.shape
  have HB1 := Lib.hid hb1
  have HXS := Lib.hid hxs
  have HRS := Lib.hid hrs
  have HBX := Lib.hid hbx
  have HBR := Lib.hid hbr
  have HP := Lib.hid hp
  rw [HL.out] at hn hxr
  obtain ⟨lx, hlx⟩ : ∃ q, x.length = q := ⟨_, rfl⟩
  obtain ⟨lr, hlr⟩ : ∃ q, r.length = q := ⟨_, rfl⟩
  have HLX := Lib.hid hlx
  have HLR := Lib.hid hlr
  rw [hlx, hlr] at hxr
  rw [hlx] at HXS ⊢
  rw [hlr] at HRS ⊢
  clear hb1 hxs hrs hbx hbr hp hlx hlr
  have hba : Below w1.heap.size w1 (w1.alloc (.cells #[.slice xo lx xc, .int .i64 n] 39)) := (Below.refl _ _).alloc (Nat.le_refl _) _
  have hA := heap_alloc_new w1 (.cells #[.slice xo lx xc, .int .i64 n] 39)
  have HBA := Lib.hid (HB1.out.trans (hba.mono HB1.out.size))
  obtain ⟨bA, hbA⟩ : ∃ q, w1.heap.size = q := ⟨_, rfl⟩
  clear hba
  go_upto_region 2 with (fail)
  rw [hbA] at hA
  have HPR := Lib.hid (part_any _ lr r _ (HRS.out.below HBA.out) HLR.out HBR.out (by omega))
  generalize w1.alloc (.cells #[.slice xo lx xc, .int .i64 n] 39) = wA at *
  have hltA := lt_of_some' hA
  go_wp2_with fail
  refine HPR.out.mono ?_
  rintro e w2 ⟨hb2, ⟨hp2, rfl⟩ | ⟨y, n2, r2, yv, rv2, hp2, rfl, hys, hrs2, hby, hbr2, hn2, hyr⟩⟩
  · have HB2 := Lib.hid (HBA.out.trans (hb2.mono HBA.out.size))
    have HB3 : Hid (Below w.heap.size w (w2.alloc (.cells #[.slice none 0 0, .int .i64 0] 39))) := Lib.hid (HB2.out.alloc HB2.out.size _)
    have HNG := Lib.hid (not_good (parsed_none2 HP.out hp2))
    clear hb2 hp2
    go_wp2_with fail
    go_ret2
    exact open_bad HB3.out HNG.out
  obtain ⟨yo, yc, rfl, _⟩ := hys.shape
  obtain ⟨so, sc, rfl, _⟩ := hrs2.shape
  have HP2 := Lib.hid hp2
  have HBY := Lib.hid hby
  rw [HLR.out] at hn2 hyr
  obtain ⟨ly, hly⟩ : ∃ q, y.length = q := ⟨_, rfl⟩
  obtain ⟨l2, hl2⟩ : ∃ q, r2.length = q := ⟨_, rfl⟩
  have HLY := Lib.hid hly
  have HL2 := Lib.hid hl2
  rw [hly, hl2] at hyr
  have HYS := Lib.hid hys
  rw [hly] at HYS ⊢
  rw [hl2]
  have HB2 := Lib.hid (HBA.out.trans (hb2.mono HBA.out.size))
  have hA2 := (hb2.block bA hltA).trans hA
  have HPE := Lib.hid (parsed_eq HP.out hp2)
  have HYS2 := Lib.hid (HYS.out.below hb2)
  have hltA2 := lt_of_some' hA2
  have hA3 := (Below.heap_alloc w2 (.cells #[.slice yo ly yc, .int .i64 n2] 39) bA hltA2).trans hA2
  have hB3 := heap_alloc_new w2 (.cells #[.slice yo ly yc, .int .i64 n2] 39)
  have hb3 : Below w2.heap.size w2 (w2.alloc (.cells #[.slice yo ly yc, .int .i64 n2] 39)) := (Below.refl _ _).alloc (Nat.le_refl _) _
  have HB3 := Lib.hid (HB2.out.trans (hb3.mono HB2.out.size))
  have HYS3 := Lib.hid (HYS2.out.below hb3)
  obtain ⟨bB, hbB⟩ : ∃ q, w2.heap.size = q := ⟨_, rfl⟩
  rw [hbB] at hB3
  clear hb2 hp2 hys hrs2 hby hbr2 hly hl2 hb3 hA hA2
  go_upto_region 3 with (fail)
  generalize w2.alloc (.cells #[.slice yo ly yc, .int .i64 n2] 39) = w3 at *
  obtain ⟨⟨x0, x1⟩, -⟩ := box2 hA3
  obtain ⟨⟨y0, y1⟩, -⟩ := box2 hB3
  have hltA3 := lt_of_some' hA3
  have hltB3 := lt_of_some' hB3
  by_cases hz : 0 < l2
  · have HNG := Lib.hid (not_good (b := b) (by
      rw [HPE.out, if_neg]
      rintro ⟨_, _, h, _⟩
      rw [← HL2.out, h] at hz
      simp at hz))
    go_wp2_with fail
    go_ret2
    exact open_bad HB3.out HNG.out
  obtain rfl : l2 = 0 := by omega
  have HR2 : Hid (r2 = []) := Lib.hid (List.length_eq_zero_iff.1 HL2.out)
  have hXV : BitsV w3 (.agg #[.slice xo lx xc, .int .i64 n]) x n := ⟨_, lx, rfl, HXS.out.below HB3.out, HBX.out, u8_of_bytes HBX.out, by omega, by omega, by omega⟩
  have HXV := Lib.hid hXV
  clear hXV
  go_wp2_with fail
  refine (Delta.unpack_any _ x n _ HXV.out (by omega) (HT.out.below HB3.out)).mono ?_
  rintro e w4 ⟨hb4, hU⟩
  have HB4 := Lib.hid (HB3.out.trans (hb4.mono HB3.out.size))
  have hA4 := (hb4.block bA hltA3).trans hA3
  have hB4 := (hb4.block bB hltB3).trans hB3
  have hYV : BitsV w4 (.agg #[.slice yo ly yc, .int .i64 n2]) y n2 := ⟨_, ly, rfl, HYS3.out.below hb4, HBY.out, u8_of_bytes HBY.out, by omega, by omega, by omega⟩
  have HYV := Lib.hid hYV
  have hsz4 := HB4.out.size
  have hh2 := HH2.out
  rw [Int.toNat_natCast] at hU
  clear hYV hA3 hB3 x0 x1 y0 y1 hb4
  obtain ⟨⟨x0, x1⟩, -⟩ := box2 hA4
  obtain ⟨⟨y0, y1⟩, -⟩ := box2 hB4
  have hX4 : Calls Tryd.prog 28 #[.agg #[.slice yo ly yc, .int .i64 n2]] w4 (Xor.UPost y n2 w4) := Xor.unpack_any _ y n2 _ HYV.out (by omega) (HX.out.below (HB4.out.mono hh2)) (by omega)
  have HX4 := Lib.hid hX4
  clear hX4
  rcases hU with ⟨hok1, hoi, tv, tn, rfl, htv, htn⟩ | ⟨hno, rfl⟩
  case inr =>
    have HNG := Lib.hid (not_good (b := b) (by
      rw [HPE.out, if_neg]
      rintro ⟨h1, _, _, h2, _⟩
      exact hno ⟨h1, h2⟩))
    clear hno
    go_wp2_with fail
    refine HX4.out.mono ?_
    rintro e w5 ⟨hb5, ⟨_, _, vv, vn, rfl, hvv, _⟩ | ⟨_, rfl⟩⟩
    · have HB5 := Lib.hid (HB4.out.trans (hb5.mono HB4.out.size))
      clear hb5 hvv
      go_wp2_with fail
      go_ret2
      exact open_bad HB5.out HNG.out
    · have HB5 := Lib.hid (HB4.out.trans (hb5.mono HB4.out.size))
      clear hb5
      go_wp2_with fail
      go_ret2
      exact open_bad HB5.out HNG.out
  obtain ⟨T, hTe⟩ : ∃ T, (unpI (unpack x n)).1 = T := ⟨_, rfl⟩
  have HTI : Hid (AllI T) := Lib.hid (by rw [← hTe]; exact unpI_all _)
  rw [hTe] at htv htn
  have HTE := Lib.hid hTe
  have HTV := Lib.hid htv
  have HTN := Lib.hid htn
  have ht1000 : tn ≤ 1000 := by rw [← htn, ← hTe]; exact hoi.2.1
  have HOK1 := Lib.hid hok1
  have HOI := Lib.hid hoi
  obtain ⟨to', tc, rfl, htc, htc2, _⟩ := htv.shape
  clear hTe htv htn hok1 hoi
  go_wp2_with fail
  refine HX4.out.mono ?_
  rintro e w5 ⟨hb5, ⟨hok2, hox, vv, vn, rfl, hvv, hvn⟩ | ⟨hno, rfl⟩⟩
  case inr =>
    have HNG := Lib.hid (not_good (b := b) (by
      rw [HPE.out, if_neg]
      rintro ⟨_, h1, _, _, h2, _⟩
      exact hno ⟨h1, by rw [Int.toNat_natCast]; exact h2⟩))
    have HB5 := Lib.hid (HB4.out.trans (hb5.mono HB4.out.size))
    clear hb5 hno
    go_wp2_with fail
    go_ret2
    exact open_bad HB5.out HNG.out
  rw [Int.toNat_natCast] at hox hvv hvn
  obtain ⟨V, hVe⟩ : ∃ V, (unxI (unpack y n2)).1 = V := ⟨_, rfl⟩
  rw [hVe] at hvv hvn
  have HVE := Lib.hid hVe
  have HVV := Lib.hid hvv
  have HVN := Lib.hid hvn
  have HOK2 := Lib.hid hok2
  have HOX := Lib.hid hox
  have HTV5 := Lib.hid (HTV.out.below hb5)
  have HB5 := Lib.hid (HB4.out.trans (hb5.mono HB4.out.size))
  obtain ⟨vo, vc, rfl, hvc, hvc2, _⟩ := hvv.shape
  clear hVe hvv hvn hok2 hox hb5 x0 x1 y0 y1 hA4 hB4
  by_cases hlen : tn = vn
  case neg =>
    have HNG := Lib.hid (not_good (b := b) (by
      rw [HPE.out, if_neg]
      rintro ⟨_, _, _, _, _, h⟩
      rw [HTE.out, HVE.out, HTN.out, HVN.out] at h
      exact hlen h))
    have hne : ((tn : Int) != (vn : Int)) = true := by rw [bne_iff_ne]; omega
    go_wp2_with fail
    go_ret2
    exact open_bad HB5.out HNG.out
  subst hlen
  have HPO : Hid (parsed b = some (zipR T V)) := Lib.hid (by
    rw [HPE.out, if_pos ⟨HOK1.out, HOK2.out, HR2.out, HOI.out, HOX.out, by rw [HTE.out, HVE.out, HTN.out, HVN.out]⟩, HTE.out, HVE.out])
  have heq : ((tn : Int) != (tn : Int)) = false := by simp
  go_wp2_with fail
  have hsz5 := HB5.out.size
  go_loopw [13, 14, 15, 65] (fun u _ _ i wx => ∃ k : Nat, k ≤ tn ∧ i = .int .i64 k ∧ Hid (wx.ownsRow w5.heap.size 65 2 u k (rowCells ((zipR T V).take k))) ∧ Hid (Below w5.heap.size w5 wx)) (fun _ _ _ i _ => tn - (intOf i).toNat)
  case atStart => exact ⟨0, by omega, rfl, Lib.hid (World.ownsRow_nil _ _ _ _), Lib.hid (Below.refl _ _)⟩
  case round =>
    obtain ⟨k, hk, rfl, HO, HBW⟩ := hrel
    by_cases hlt : k < tn
    · obtain ⟨tb, toff, rfl, ct⟩ := (HTV5.out.below HBW.out).int (i := k) hlt
      obtain ⟨vb, voff, rfl, cv⟩ := (HVV.out.below HBW.out).int (i := k) hlt
      have HZ := Lib.hid (zipR_snoc T V (k := k) (by rw [HTN.out]; exact hlt))
      obtain ⟨tz, htz⟩ : ∃ z, T.getD k 0 = z := ⟨_, rfl⟩
      obtain ⟨vz, hvz⟩ : ∃ z, V.getD k 0 = z := ⟨_, rfl⟩
      rw [htz] at ct HZ
      rw [hvz] at cv HZ
      rw [show wI vz = wrap64 vz from IntWalk.i64_left vz] at HZ
      have hown := HO.out
      have hbel := HBW.out
      have hszr := hbel.size
      clear htz hvz
      obtain ⟨uo, uc, rfl, _⟩ := own_shape hown
      go_wp2_with (at_builtin; refine append1 [Value.int .i64 tz, Value.int .i64 (wrap64 vz)] elSmp rfl _ _ rfl hown hbel hszr rfl rfl rfl (by intro q hq; simp at hq; rcases hq with rfl | rfl <;> rfl) ?c1 ?c2 ?_)
      case c1 => omega
      case c2 => omega
      intro v' w6 hown6 hb6 _
      have HO6 : Hid (w6.ownsRow w5.heap.size 65 2 v' (k + 1) (rowCells ((zipR T V).take (k + 1)))) := Lib.hid (by rw [HZ.out, ← rows_snoc]; exact hown6)
      have HB6 := Lib.hid hb6
      clear hown hbel hown6 hb6 ct cv
      go_wp2_with fail
      go_roundw
      case rel => exact ⟨k + 1, by omega, by go_num, HO6, HB6⟩
      case measure => simp [intOf]; omega
    · obtain rfl : k = tn := by omega
      have hown := HO.out
      rw [List.take_of_length_le (by rw [zipR_len, HTN.out]; exact Nat.le_refl _)] at hown
      have hZL : (zipR T V).length = k := by rw [zipR_len, HTN.out]
      have hZR : Rows64 2 (zipR T V) := zipR_rows HTI.out
      have hsZ := own_sl hown
      have HZS := Lib.hid hsZ
      have HZL := Lib.hid hZL
      have HZR := Lib.hid hZR
      have HBR2 := Lib.hid (HB5.out.trans (HBW.out.mono hsz5))
      have hszr := HBR2.out.size
      obtain ⟨F, hF⟩ : ∃ F, sampF (zipR T V) = F := ⟨_, rfl⟩
      have HF := Lib.hid hF
      obtain ⟨Z, hZ⟩ : ∃ Z, zipR T V = Z := ⟨_, rfl⟩
      rw [hZ] at HZS HZL HZR HF HPO
      obtain ⟨uo, uc, rfl, _⟩ := own_shape hown
      clear hown hZL hZR hsZ hF hZ HO
      by_cases hF0 : F = 0
      case neg =>
        have HNG : Hid (∀ out, ¬ Good b out) := Lib.hid (by
          rintro out ⟨h1, h2, _⟩
          rw [HPO.out] at h1
          have := Option.some.inj h1
          subst this
          rw [HF.out] at h2
          exact hF0 h2)
        have t1 : (F != 0) = true := by rw [bne_iff_ne]; exact hF0
        go_wp2_with fail
        refine (seal_bad _ k Z _ HZS.out HZL.out HZR.out (by omega) F HF.out hF0).mono ?_
        rintro e w7 ⟨rfl, hb7⟩
        have HB7 := Lib.hid (HBR2.out.trans (hb7.mono hszr))
        clear hb7
        go_wp2_with fail
        go_ret2
        exact open_bad HB7.out HNG.out
      subst hF0
      go_wp2_with fail
      refine (seal_any _ k Z _ HZS.out HZL.out HZR.out HF.out (HT.out.below HBR2.out) (HX.out.below (HBR2.out.mono hh2)) (by omega)).mono ?_
      rintro e w7 ⟨sv, rfl, hown7, hb7⟩
      have HB7 := Lib.hid (HBR2.out.trans (hb7.mono hszr))
      have HEQ := Lib.hid (equal_any sv (.slice ao m c) _ _ _ _ w7 (own_sl hown7) (HV.out.below HB7.out) (Go.Proofs.YtbifhmbfmoeofaaDoor.ChunkSeals.sealF_bytes Z (by rw [HZL.out]; exact ht1000)) (u8_of_bytes HB.out))
      have HZ7 := Lib.hid (HZS.out.below hb7)
      clear hown7 hb7
      by_cases hsb : sealF Z = b
      · have HD : Hid (decide (sealF Z = b) = true) := Lib.hid (decide_eq_true hsb)
        have HG : Hid (Good b Z) := Lib.hid ⟨HPO.out, HF.out, hsb⟩
        clear hsb
        go_wp2_with fail
        refine HEQ.out.mono ?_
        rw [HD.out]
        rintro e w8 ⟨rfl, hq⟩
        have HQ := Lib.hid hq
        clear hq
        go_wp2_with fail
        go_ret2
        rw [← HQ.out]
        exact ⟨HB7.out, Or.inl ⟨Z, _, k, HG.out, rfl, HZ7.out, HZL.out, HZR.out.k⟩⟩
      · have HD : Hid (decide (sealF Z = b) = false) := Lib.hid (decide_eq_false hsb)
        have HNG : Hid (∀ out, ¬ Good b out) := Lib.hid (by
          rintro out ⟨h1, _, h2⟩
          rw [HPO.out] at h1
          have := Option.some.inj h1
          subst this
          exact hsb h2)
        clear hsb
        go_wp2_with fail
        refine HEQ.out.mono ?_
        rw [HD.out]
        rintro e w8 ⟨rfl, hq⟩
        have HQ := Lib.hid hq
        clear hq
        go_wp2_with fail
        go_ret2
        rw [← HQ.out]
        exact open_bad HB7.out HNG.out
end Go.Proofs.YtbifhmbfmoeofaaDoor.Opn
