/-
  The walk of MeasuresOf.
-/
import Derived.Test.YtmbmognhbljliaaDoorXO2
import Derived.Test.YtmbmognhbljliaaDoorDO4
namespace Go.Proofs.YtmbmognhbljliaaDoor.Xor
open Go.RowKit Go.Gh Go.Proofs.YtmbmognhbljliaaDoor.Bits Go.Proofs.YtmbmognhbljliaaDoor.Delta
set_option linter.unusedVariables false
/-- How far the reference's reading has come: the text's cell, the mark's cell, the row of what was read. -/
structure XAt (w : World) (cb bb base : Nat) (x : Rx) (out : List Int) (m : Nat) (u : Value) (wx : World) : Prop where
  box : wx.heap[cb]? = some (.cells #[.string (sbits x.s)] 9 (0, 0))
  mark : wx.heap[bb]? = some (.cells #[.bool x.bad] 4 (0, 0))
  own : wx.ownsRow base 50 1 u m (out.map (Value.int .u64))
  len : out.length = m
  bel : Below cb w wx
  size : base ≤ wx.heap.size
theorem XAt.cell {w : World} {cb bb base : Nat} {x : Rx} {out : List Int} {m : Nat} {u : Value} {wx : World} (h : XAt w cb bb base x out m u wx) : wx.cell? ⟨cb, 0, none⟩ = some (.string (sbits x.s)) ∧ wx.frozen? ⟨cb, 0, none⟩ = false ∧ wx.cell? ⟨bb, 0, none⟩ = some (.bool x.bad) ∧ wx.frozen? ⟨bb, 0, none⟩ = false :=
  ⟨(row_cell 0 _ h.box rfl).1, (row_cell 0 (.string (sbits x.s)) h.box rfl).2, (row_cell 0 _ h.mark rfl).1, (row_cell 0 (.bool x.bad) h.mark rfl).2⟩
theorem XAt.text {w : World} {cb bb base : Nat} {x : Rx} {out : List Int} {m : Nat} {u : Value} {wx : World} (h : XAt w cb bb base x out m u wx) (hb : cb < bb) (hb2 : bb < base) (s : List Bool) : XAt w cb bb base { x with s := s } out m u (wx.setCell ⟨cb, 0, none⟩ (.string (sbits s))) := by
  refine ⟨by simpa using row_setCell 0 (.string (sbits s)) h.box, row_setCell_other _ h.mark (by omega), ownsRow_setCell_other h.own (a := ⟨cb, 0, none⟩) (fun he => ?_) _, h.len, h.bel.setCell (p := ⟨cb, 0, none⟩) (Nat.le_refl _) _, by simpa using h.size⟩
  have := (h.own.lt _ he).1
  have h2 : (⟨cb, 0, none⟩ : Addr).block = cb := rfl
  omega
theorem XAt.short {w : World} {cb bb base : Nat} {x : Rx} {out : List Int} {m : Nat} {u : Value} {wx : World} (h : XAt w cb bb base x out m u wx) (hb : cb < bb) (hb2 : bb < base) : XAt w cb bb base { x with bad := true } out m u (wx.setCell ⟨bb, 0, none⟩ (.bool true)) := by
  refine ⟨row_setCell_other _ h.box (by omega), by simpa using row_setCell 0 (.bool true) h.mark, ownsRow_setCell_other h.own (a := ⟨bb, 0, none⟩) (fun he => ?_) _, h.len, h.bel.setCell (p := ⟨bb, 0, none⟩) (show cb ≤ bb by omega) _, by simpa using h.size⟩
  have := (h.own.lt _ he).1
  have h2 : (⟨bb, 0, none⟩ : Addr).block = bb := rfl
  omega
theorem XAt.below {w : World} {cb bb base : Nat} {x : Rx} {out : List Int} {m : Nat} {u : Value} {wx wy : World} (h : XAt w cb bb base x out m u wx) (hb : cb < bb) (hb2 : bb < base) (hy : Below wx.heap.size wx wy) : XAt w cb bb base x out m u wy :=
  ⟨(hy.block cb (Array.getElem?_eq_some_iff.1 h.box).1).trans h.box, (hy.block bb (Array.getElem?_eq_some_iff.1 h.mark).1).trans h.mark, own_below h.own hy, h.len, h.bel.trans (hy.mono (by have := h.size; omega)), Nat.le_trans h.size hy.size⟩
theorem XAt.app {w wx wy : World} {cb bb base : Nat} {x : Rx} {out : List Int} {m : Nat} {u v' : Value} {z : Int} (h : XAt w cb bb base x out m u wx) (hb : cb < bb) (hb2 : bb < base) (hown : wy.ownsRow base 50 1 v' (m + 1) (out.map (Value.int .u64) ++ [Value.int .u64 z])) (hg : wx.grownBy wy u.ownBlock) : XAt w cb bb base x (out ++ [z]) (m + 1) v' wy := by
  refine ⟨grown_block2 hg (fun he => by have := (h.own.lt _ he).1; omega) h.box, grown_block2 hg (fun he => by have := (h.own.lt _ he).1; omega) h.mark, by rw [List.map_append]; exact hown, by simp [h.len], Below.grown h.bel hg (by have := h.size; omega) (fun k hk => by have := (h.own.lt _ hk).1; omega), Nat.le_trans h.size hg.size⟩
theorem rbt_one (x : Rx) : rbt 1 x = [true] ∨ rbt 1 x = [false] := by
  unfold rbt tkX
  split
  · exact Or.inr rfl
  · cases hx : x.s with
    | nil => simp_all
    | cons b t => cases b <;> simp
theorem rbt_len (n : Nat) (x : Rx) (hn : 0 < n) : 0 < (rbt n x).length ∧ (rbt n x).length ≤ n := by
  unfold rbt tkX
  split
  · simp; omega
  · simp; omega
theorem rtk_len (n : Nat) (x : Rx) : (rtk n x).s.length ≤ x.s.length := by
  unfold rtk tkX
  split
  · exact Nat.le_refl _
  · simp
theorem take_x {w wr : World} {cb bb base : Nat} {x : Rx} {out : List Int} {m : Nat} {u : Value} (n : Nat) (h : XAt w cb bb base x out m u wr) (hn : n ≤ 64) (hs : x.s.length ≤ 2000) (hb : cb < bb) (hb2 : bb < base) :
    Calls Tryd.prog 37 #[.int .i64 n, .pointer (some ⟨cb, 0, none⟩), .pointer (some ⟨bb, 0, none⟩)] wr fun e w' => e = .returned (.string (sbits (rbt n x))) ∧ XAt w cb bb base (rtk n x) out m u w' := by
  obtain ⟨x0, f0, x1, f1⟩ := h.cell
  have hsz : (sbits x.s).size = x.s.length := sbits_size x.s
  by_cases hlt : x.s.length < n
  · have HF : Hid (rbt n x = [false] ∧ rtk n x = { x with bad := true }) := Lib.hid ⟨by unfold rbt tkX; rw [if_pos hlt], by unfold rtk tkX; rw [if_pos hlt]⟩
    have HX := Lib.hid (h.short hb hb2)
    clear h
    go_enter Tryd.func37, Tryd.ntmps37
    go_wp2_with fail
    go_ret
    rw [HF.out.1, HF.out.2]
    exact ⟨rfl, HX.out⟩
  · have HF : Hid (rbt n x = x.s.take n ∧ rtk n x = { x with s := x.s.drop n }) := Lib.hid ⟨by unfold rbt tkX; rw [if_neg hlt], by unfold rtk tkX; rw [if_neg hlt]⟩
    have h1 : n ≤ (sbits x.s).size := by omega
    have HA : Hid ((sbits x.s).extract 0 n = sbits (x.s.take n)) := Lib.hid (by rw [sbits_mid]; simp)
    have HB : Hid ((sbits x.s).extract n x.s.length = sbits (x.s.drop n)) := Lib.hid (by rw [sbits_mid, List.take_of_length_le (by simp)])
    have HX := Lib.hid (h.text hb hb2 (x.s.drop n))
    clear h
    go_enter Tryd.func37, Tryd.ntmps37
    go_wp2_with fail
    go_ret
    rw [HF.out.1, HF.out.2, HB.out]
    exact ⟨by rw [HA.out]; rfl, HX.out⟩
/-- The window's bounds. -/
def BX (x : Rx) : Prop := -1 ≤ x.ld ∧ x.ld ≤ 63 ∧ 0 ≤ x.sz ∧ x.sz ≤ 64 ∧ x.s.length ≤ 2000
theorem BX.take {x : Rx} (h : BX x) (n : Nat) : BX (rtk n x) := ⟨h.1, h.2.1, h.2.2.1, h.2.2.2.1, Nat.le_trans (rtk_len n x) h.2.2.2.2⟩
theorem rbt_val6 (x : Rx) : 0 ≤ valF 0 (rbt 6 x) ∧ valF 0 (rbt 6 x) ≤ 63 := by
  have h := valF_bd (rbt 6 x)
  have hl := (rbt_len 6 x (by decide)).2
  have h1 : 2 ^ (rbt 6 x).length ≤ 2 ^ 6 := Nat.pow_le_pow_right (by decide) hl
  have h3 : 2 ^ 6 = 64 := by decide
  rw [two_pow_cast] at h
  omega
def okXR (s : List Bool) : Prop := ∃ o, unxR s = some (o, false) ∧ o.length ≤ 1000 ∧ (msTo o o.length).1 = s
def XPost (s : List Bool) (w : World) (e : Ending) (w' : World) : Prop :=
  Below w.heap.size w w' ∧ ((∃ o v n, unxR s = some (o, false) ∧ o.length ≤ 1000 ∧ (msTo o o.length).1 = s ∧ e = .returned (.tuple #[v, .bool true]) ∧ Sl w' 1 v n (o.map (Value.int .u64)) ∧ o.length = n) ∨ (¬ okXR s ∧ ∃ v, e = .returned (.tuple #[v, .bool false])))
set_option maxHeartbeats 8000000 in
set_option maxRecDepth 100000 in
theorem measuresof_any (s : List Bool) (hs : s.length ≤ 2000) (w : World) :
    Calls Tryd.prog 19 #[.string (sbits s)] w (XPost s w) := by
  have hmf : ∀ (fn : Fn) (first cap : Array Value) (w : World), (Instr.makeFunc fn first cap).run Tryd.prog w = .ok (.func fn first cap) w := fun _ _ _ _ => rfl
  go_enter Tryd.func19, Tryd.ntmps19
  go_upto_region 3 with (fail)
  refine wp_abs (fun wA => wA.heap[w.heap.size]? = some (.cells #[.string (sbits s)] 9 (0, 0)) ∧ wA.heap[w.heap.size + 1]? = some (.cells #[.bool false] 4 (0, 0)) ∧ Below w.heap.size w wA ∧ w.heap.size + 2 ≤ wA.heap.size) ⟨two_first w _ _, two_second w _ _, ((Below.refl _ _).alloc (Nat.le_refl _) _).alloc (by simp) _, by simp⟩ ?_
  rintro wA ⟨hA0, hA1, hAb, hAs⟩
  obtain ⟨cb, hcb⟩ : ∃ cb, w.heap.size = cb := ⟨_, rfl⟩
  have HCB := Lib.hid hcb
  rw [hcb] at hA0 hA1 hAb hAs ⊢
  obtain ⟨bb, hbb⟩ : ∃ bb, cb + 1 = bb := ⟨_, rfl⟩
  rw [hbb] at hA1 ⊢
  obtain ⟨base, hbase⟩ : ∃ base, cb + 2 = base := ⟨_, rfl⟩
  have hlt : cb < bb := by omega
  have hlt2 : bb < base := by omega
  rw [hbase] at hAs
  have hXA : XAt w cb bb base { s := s, bad := false, ld := -1, sz := 0 } [] 0 (.slice none 0 0) wA := ⟨hA0, hA1, World.ownsRow_nil _ _ _ _, rfl, hAb, hAs⟩
  have HC16 := take_x 16 hXA (by decide) hs hlt hlt2
  have hl16 := (rbt_len 16 { s := s, bad := false, ld := -1, sz := 0 } (by decide)).2
  have HBX0 : Hid (BX (rtk 16 { s := s, bad := false, ld := -1, sz := 0 })) := Lib.hid (BX.take ⟨by simp, by simp, by simp, by simp, hs⟩ 16)
  clear hXA hA0 hA1 hAb hAs hbase hcb hbb
  obtain ⟨b16, hb16⟩ : ∃ b, rbt 16 { s := s, bad := false, ld := -1, sz := 0 } = b := ⟨_, rfl⟩
  obtain ⟨x16, hx16⟩ : ∃ b, rtk 16 { s := s, bad := false, ld := -1, sz := 0 } = b := ⟨_, rfl⟩
  have hld : x16.ld = -1 ∧ x16.sz = 0 := by rw [← hx16]; exact ⟨rfl, rfl⟩
  have hV := valF_bd b16
  obtain ⟨K, hK⟩ : ∃ K : Nat, valF 0 b16 = K := ⟨(valF 0 b16).toNat, (Int.toNat_of_nonneg hV.1).symm⟩
  obtain ⟨RES, hRES⟩ : ∃ o, unxR s = o := ⟨_, rfl⟩
  have HO := Lib.hid hRES
  have HG0 : Hid (gxR K 0 [] x16 = RES) := Lib.hid (by rw [← hRES]; unfold unxR; rw [hb16, hx16, hK, Int.toNat_natCast])
  rw [hb16] at hl16
  rw [hb16, hx16] at HC16
  rw [hx16] at HBX0
  have hKb : K < 65536 := by
    have h1 : 2 ^ b16.length ≤ 2 ^ 16 := Nat.pow_le_pow_right (by decide) hl16
    have h2 := hV.2
    rw [two_pow_cast, hK] at h2
    have h3 : 2 ^ 16 = 65536 := by decide
    omega
  have HCC := Lib.hid HC16
  have HV16 := valueof_any b16 (by omega)
  rw [hK] at HV16
  obtain ⟨hl1, hl2⟩ := hld
  clear HC16 hV hb16 hx16 hRES hl16 hK
  go_wp2_with fail
  refine HCC.out.mono ?_
  rintro e w4 ⟨rfl, hX4⟩
  have HX4 := Lib.hid hX4
  clear hX4 HCC
  go_wp2_with fail
  refine (HV16 _).mono ?_
  rintro e w5 ⟨rfl, rfl⟩
  clear HV16
  go_upto_block 0 with fail
  go_cut [7] (fun u wx => ∃ m out x, m ≤ K ∧ Hid (RES = some (out, x.bad)) ∧ Hid (XAt w cb bb base x out m u wx))
  case first =>
    go_wp2_with fail
    go_loopw [7, 9, 10, 11] (fun u a b i wx => ∃ (j f : Nat) (out : List Int) (x : Rx), j + f = K ∧ i = .int .i64 j ∧ a = .int .i64 x.ld ∧ b = .int .i64 x.sz ∧ Hid (BX x) ∧ Hid (AllU out) ∧ Hid (gxR f j out x = RES) ∧ Hid (XAt w cb bb base x out j u wx)) (fun _ _ _ i _ => K - (intOf i).toNat)
    case atStart => exact ⟨0, K, [], x16, by omega, rfl, by rw [hl1], by rw [hl2], HBX0, Lib.hid (fun z hz => by simp at hz), HG0, HX4⟩
    case round =>
      obtain ⟨j, f, out, x, hjf, rfl, rfl, rfl, HB, HAU, HG, HP⟩ := hrel
      obtain ⟨x0, f0, x1, f1⟩ := HP.out.cell
      clear hl1 hl2
      cases f with
      | zero =>
        obtain rfl : j = K := by omega
        have HE := Lib.hid (HG.out.symm.trans (by rw [gxR]))
        clear HG
        go_wp2_with fail
        go_meet
        exact ⟨_, _, x, by omega, HE, HP⟩
      | succ f =>
        have hjK : j < K := by omega
        have hj8 : (j + 1) * 8 ≤ 140737488355328 := by omega
        have h1 := HG.out
        rw [gxR] at h1
        clear HG
        by_cases hbad : x.bad = true
        · rw [if_pos hbad] at h1
          have HE := Lib.hid h1.symm
          rw [hbad] at x1
          clear h1 hbad
          go_wp2_with fail
          go_meet
          exact ⟨_, _, x, by omega, HE, HP⟩
        · rw [if_neg hbad] at h1
          have hbf : x.bad = false := by simpa using hbad
          rw [hbf] at x1
          clear hbad hbf
          by_cases hj0 : j = 0
          · subst hj0
            rw [if_pos rfl] at h1
            have HC := take_x 64 HP.out (by decide) HB.out.2.2.2.2 hlt hlt2
            have hvu := rbt_u (n := 64) (by decide) x
            have hl64 := (rbt_len 64 x (by decide)).2
            have HB2 : Hid (BX (rtk 64 x)) := Lib.hid (HB.out.take 64)
            obtain ⟨b2, hb2⟩ : ∃ b, rbt 64 x = b := ⟨_, rfl⟩
            obtain ⟨V, hV⟩ : ∃ V, valF 0 b2 = V := ⟨_, rfl⟩
            rw [hb2] at HC h1 hvu hl64
            rw [hV] at h1 hvu
            have HVV := valueof_any b2 hl64
            rw [hV] at HVV
            have HCC := Lib.hid HC
            have HG3 := Lib.hid h1
            have HAU2 := Lib.hid (allU_snoc HAU.out hvu)
            clear HC h1 hV hb2 hvu
            go_wp2_with fail
            refine HCC.out.mono ?_
            rintro e w6 ⟨rfl, hP5⟩
            have HP5 := Lib.hid hP5
            clear hP5 HCC
            go_wp2_with fail
            refine (HVV _).mono ?_
            rintro e w7 ⟨rfl, rfl⟩
            have hown := HP5.out.own
            have hsz2 := HP5.out.size
            clear HVV x0 f0 x1 f1
            go_wp2_with (at_builtin; refine append1 [Value.int .u64 V] elU64 rfl _ _ rfl hown (Below.refl base _) hsz2 rfl rfl rfl (by intro u hu; simp at hu; subst hu; rfl) ?c4 ?c5 ?_)
            case c4 => omega
            case c5 => omega
            intro v' w8 hown8 _ hg8
            have HP6 := Lib.hid (HP5.out.app hlt hlt2 hown8 hg8)
            clear hown8 hg8 hown
            go_wp2_with fail
            go_roundw
            case rel => exact ⟨0 + 1, f, _, rtk 64 x, by omega, by go_num, rfl, rfl, HB2, HAU2, HG3, HP6⟩
            case measure => simp [intOf]; omega
          · rw [if_neg hj0] at h1
            have hjb : ((j : Int) == 0) = false := by rw [beq_eq_false_iff_ne]; omega
            have H1 := Lib.hid h1
            clear h1
            obtain ⟨uo, uc, rfl, _, _, _⟩ := own_shape HP.out.own
            obtain ⟨I1, hI1⟩ : ∃ I : Nat, (j : Int) - 1 = I := ⟨j - 1, by omega⟩
            have hI1n : I1 = j - 1 := by omega
            have hI1j : I1 < j := by omega
            obtain ⟨b1, off1, rfl, hc1⟩ := (own_sl HP.out.own).int (i := I1) hI1j
            have hlu := allU_get HAU.out I1
            obtain ⟨LA, hLA⟩ : ∃ A, out.getD I1 0 = A := ⟨_, rfl⟩
            have HLA : Hid (out.getD (j - 1) 0 = LA) := Lib.hid (by rw [← hI1n]; exact hLA)
            rw [hLA] at hc1 hlu
            have HLU := Lib.hid hlu
            have HC1 := Lib.hid (take_x 1 HP.out (by decide) HB.out.2.2.2.2 hlt hlt2)
            have HB1 : Hid (BX (rtk 1 x)) := Lib.hid (HB.out.take 1)
            have h11 := rbt_one x
            clear hLA hlu hI1n hj0
            obtain ⟨D, hD⟩ : ∃ D, ((sbits (rbt 1 x)).toList == [49]) = D := ⟨_, rfl⟩
            have HD := Lib.hid hD
            go_wp2_with fail
            refine HC1.out.mono ?_
            rintro e w6 ⟨rfl, hP1⟩
            have HP1 := Lib.hid hP1
            clear hP1 HC1 x0 f0 x1 f1 hc1
            go_upto_if 44 with (fail)
            clear hD
            go_cut [9, 10, 12] (fun a b c wx => ∃ (x2 : Rx) (v2 : Int), a = .int .i64 x2.ld ∧ b = .int .i64 x2.sz ∧ c = .int .u64 v2 ∧ Hid (BX x2) ∧ Hid (U64 v2) ∧ Hid (gxR f (j + 1) (out ++ [v2]) x2 = RES) ∧ Hid (XAt w cb bb base x2 out j (.slice (some ⟨b1, off1, none⟩) j uc) wx))
            case first =>
              rcases h11 with h11 | h11
              case inr =>
                have hD2 : D = false := by rw [← HD.out, h11]; exact cmp0
                subst hD2
                have HG3 := H1.out
                rw [if_neg (by rw [h11]; simp), HLA.out] at HG3
                have HG4 := Lib.hid HG3
                clear HG3
                go_wp2_with fail
                go_meet
                exact ⟨rtk 1 x, LA, rfl, rfl, rfl, HB1, HLU, HG4, HP1⟩
              case inl =>
                have hD2 : D = true := by rw [← HD.out, h11]; exact cmp1
                subst hD2
                have HG3 := H1.out
                rw [if_pos h11, HLA.out] at HG3
                have HG4 := Lib.hid HG3
                clear HG3 H1 HD h11
                have HC2 := Lib.hid (take_x 1 HP1.out (by decide) HB1.out.2.2.2.2 hlt hlt2)
                have HB2 : Hid (BX (rtk 1 (rtk 1 x))) := Lib.hid (HB1.out.take 1)
                have h12 := rbt_one (rtk 1 x)
                obtain ⟨D2, hDD⟩ : ∃ D, ((sbits (rbt 1 (rtk 1 x))).toList == [49]) = D := ⟨_, rfl⟩
                have HDD := Lib.hid hDD
                go_wp2_with fail
                refine HC2.out.mono ?_
                rintro e w7 ⟨rfl, hP2⟩
                have HP2 := Lib.hid hP2
                clear hP2 HC2
                go_upto_if 47 with (fail)
                clear hDD
                go_cut [9, 10] (fun a b wx => ∃ (x3 : Rx), a = .int .i64 x3.ld ∧ b = .int .i64 x3.sz ∧ Hid (BX x3) ∧ Hid (opnR (rtk 1 x) = x3) ∧ Hid (XAt w cb bb base x3 out j (.slice (some ⟨b1, off1, none⟩) j uc) wx))
                case first =>
                  rcases h12 with h12 | h12
                  case inr =>
                    have hD3 : D2 = false := by rw [← HDD.out, h12]; exact cmp0
                    subst hD3
                    have HOP : Hid (opnR (rtk 1 x) = rtk 1 (rtk 1 x)) := Lib.hid (by unfold opnR; rw [if_neg (by rw [h12]; simp)])
                    go_wp2_with fail
                    go_meet
                    exact ⟨rtk 1 (rtk 1 x), rfl, rfl, HB2, HOP, HP2⟩
                  case inl =>
                    have hD3 : D2 = true := by rw [← HDD.out, h12]; exact cmp1
                    subst hD3
                    obtain ⟨y, hy⟩ : ∃ y, rtk 1 (rtk 1 x) = y := ⟨_, rfl⟩
                    have HOP : Hid (opnR (rtk 1 x) = { rtk 6 (rtk 6 y) with ld := valF 0 (rbt 6 y), sz := valF 0 (rbt 6 (rtk 6 y)) + 1 }) := Lib.hid (by unfold opnR; rw [if_pos h12, hy])
                    rw [hy] at HB2 HP2
                    clear h12 HDD hy
                    have HC3 := Lib.hid (take_x 6 HP2.out (by decide) HB2.out.2.2.2.2 hlt hlt2)
                    have HB3 : Hid (BX (rtk 6 y)) := Lib.hid (HB2.out.take 6)
                    have hv3 := rbt_val6 y
                    have HV3 := valueof_any (rbt 6 y) (by have := (rbt_len 6 y (by decide)).2; omega)
                    have hv4 := rbt_val6 (rtk 6 y)
                    have HV4 := valueof_any (rbt 6 (rtk 6 y)) (by have := (rbt_len 6 (rtk 6 y) (by decide)).2; omega)
                    obtain ⟨A, hA⟩ : ∃ A, valF 0 (rbt 6 y) = A := ⟨_, rfl⟩
                    obtain ⟨B, hB⟩ : ∃ A, valF 0 (rbt 6 (rtk 6 y)) = A := ⟨_, rfl⟩
                    rw [hA] at hv3 HV3 HOP
                    rw [hB] at hv4 HV4 HOP
                    clear hA hB
                    go_wp2_with fail
                    refine HC3.out.mono ?_
                    rintro e w8 ⟨rfl, hP3⟩
                    have HP3 := Lib.hid hP3
                    clear hP3 HC3
                    go_wp2_with fail
                    refine (HV3 _).mono ?_
                    rintro e w9 ⟨rfl, rfl⟩
                    have HC4 := Lib.hid (take_x 6 HP3.out (by decide) HB3.out.2.2.2.2 hlt hlt2)
                    have HB4 : Hid (BX (rtk 6 (rtk 6 y))) := Lib.hid (HB3.out.take 6)
                    go_wp2_with fail
                    refine HC4.out.mono ?_
                    rintro e w9 ⟨rfl, hP4⟩
                    have HP4 := Lib.hid hP4
                    clear hP4 HC4
                    go_wp2_with fail
                    refine (HV4 _).mono ?_
                    rintro e w10 ⟨rfl, rfl⟩
                    have HP5 : Hid (XAt w cb bb base { rtk 6 (rtk 6 y) with ld := A, sz := B + 1 } out j (.slice (some ⟨b1, off1, none⟩) j uc) w9) := Lib.hid ⟨HP4.out.box, HP4.out.mark, HP4.out.own, HP4.out.len, HP4.out.bel, HP4.out.size⟩
                    have HB5 : Hid (BX { rtk 6 (rtk 6 y) with ld := A, sz := B + 1 }) := Lib.hid ⟨by simp only; omega, by simp only; omega, by simp only; omega, by simp only; omega, HB4.out.2.2.2.2⟩
                    go_wp2_with fail
                    go_meet
                    exact ⟨{ rtk 6 (rtk 6 y) with ld := A, sz := B + 1 }, rfl, rfl, HB5, HOP, HP5⟩
                obtain ⟨x3, rfl, rfl, HB3, HOP, HP3⟩ := hcut
                clear HB2 HP2 h12 HDD
                have HG5 := HG4.out
                rw [HOP.out] at HG5
                have hbx := HB3.out
                obtain ⟨hb1, hb2, hb3, hb4, hb5⟩ := hbx
                by_cases hok : okW x3
                case neg =>
                  rw [if_neg hok] at HG5
                  have HNO : Hid (¬ okXR s) := Lib.hid (by
                    rintro ⟨o, h, _⟩
                    rw [HO.out, ← HG5] at h
                    simp at h)
                  have hBel := HP3.out.bel
                  by_cases hneg : x3.ld < 0
                  · clear hok HG5
                    go_wp2_with fail
                    go_ret2
                    exact ⟨by rw [HCB.out]; exact hBel, Or.inr ⟨HNO.out, _, rfl⟩⟩
                  · have hgt : 64 < x3.ld + x3.sz := by
                      unfold okW at hok
                      omega
                    clear hok HG5
                    go_wp2_with fail
                    go_ret2
                    exact ⟨by rw [HCB.out]; exact hBel, Or.inr ⟨HNO.out, _, rfl⟩⟩
                case pos =>
                  rw [if_pos hok] at HG5
                  obtain ⟨ho1, ho2⟩ := hok
                  obtain ⟨n, hn⟩ : ∃ n : Nat, x3.sz = n := ⟨x3.sz.toNat, by omega⟩
                  obtain ⟨n2, hn2⟩ : ∃ n2 : Nat, 64 - x3.ld - n = n2 := ⟨(64 - x3.ld - n).toNat, by omega⟩
                  have hn64 : n ≤ 64 := by omega
                  have HC4 := Lib.hid (take_x n HP3.out hn64 hb5 hlt hlt2)
                  have HB4 : Hid (BX (rtk n x3)) := Lib.hid (HB3.out.take n)
                  have hlb : (rbt n x3).length ≤ 64 := by
                    unfold rbt tkX
                    split
                    · simp
                    · simp; omega
                  have HV4 := valueof_any (rbt n x3) hlb
                  have hvu := rbt_u hn64 x3
                  rw [hn, Int.toNat_natCast, hn2, Int.toNat_natCast] at HG5
                  obtain ⟨V, hV⟩ : ∃ V, valF 0 (rbt n x3) = V := ⟨_, rfl⟩
                  rw [hV] at HV4 hvu HG5
                  have HG6 := Lib.hid HG5
                  have HVU := Lib.hid hvu
                  have HLDS : Hid ((rtk n x3).ld = x3.ld ∧ (rtk n x3).sz = x3.sz) := Lib.hid ⟨rfl, rfl⟩
                  rw [hn]
                  clear HG5 hV hvu HG4 HOP hlb
                  go_wp2_with fail
                  refine HC4.out.mono ?_
                  rintro e w8 ⟨rfl, hP4⟩
                  have HP4 := Lib.hid hP4
                  clear hP4 HC4
                  go_wp2_with fail
                  refine (HV4 _).mono ?_
                  rintro e w9 ⟨rfl, rfl⟩
                  go_wp2_with fail
                  go_loopw [13, 73] (fun t i wx => ∃ q : Nat, q ≤ n2 ∧ i = .int .i64 q ∧ t = .int .u64 (dbl V q) ∧ Hid (XAt w cb bb base (rtk n x3) out j (.slice (some ⟨b1, off1, none⟩) j uc) wx)) (fun _ i _ => n2 - (intOf i).toNat)
                  case atStart => exact ⟨0, by omega, rfl, rfl, HP4⟩
                  case round =>
                    obtain ⟨q, hq, rfl, rfl, HPQ⟩ := hrel
                    by_cases hlt3 : q < n2
                    · have hz := dbl_u HVU.out q
                      have HN : Hid (dbl V (q + 1) = wU (dbl V q * 2)) := Lib.hid (by rw [dbl])
                      unfold U64 at hz
                      generalize dbl V q = z at *
                      go_wp2_with fail
                      go_roundw
                      case rel => exact ⟨q + 1, by omega, by go_num, by rw [HN.out]; rfl, HPQ⟩
                      case measure => simp [intOf]; omega
                    · obtain rfl : q = n2 := by omega
                      have HTU := Lib.hid (xor_u HLU.out (dbl_u HVU.out q))
                      generalize dbl V q = T at *
                      go_wp2_with fail
                      go_meet
                      exact ⟨rtk n x3, xorI LA T, rfl, by show Value.int .i64 (n : Int) = Value.int .i64 x3.sz; rw [hn], rfl, HB4, HTU, HG6, HPQ⟩
            obtain ⟨x2, v2, rfl, rfl, rfl, HB2, HVU, HG3, HP2⟩ := hcut
            have HAU2 := Lib.hid (allU_snoc HAU.out HVU.out)
            have hown := HP2.out.own
            have hsz2 := HP2.out.size
            go_wp2_with (at_builtin; refine append1 [Value.int .u64 v2] elU64 rfl _ _ rfl hown (Below.refl base _) hsz2 rfl rfl rfl (by intro u hu; simp at hu; subst hu; rfl) ?c4 ?c5 ?_)
            case c4 => omega
            case c5 => omega
            intro v' w8 hown8 _ hg8
            have HP6 := Lib.hid (HP2.out.app hlt hlt2 hown8 hg8)
            clear hown8 hg8 hown
            go_wp2_with fail
            go_roundw
            case rel => exact ⟨j + 1, f, _, x2, by omega, by go_num, rfl, rfl, HB2, HAU2, HG3, HP6⟩
            case measure => simp [intOf]; omega
  case rest =>
    obtain ⟨m, out, x, hmK, HE, HP⟩ := hcut
    obtain ⟨x0, f0, x1, f1⟩ := HP.out.cell
    have HOUT := Lib.hid (own_sl HP.out.own)
    obtain ⟨uo, uc, rfl, _, _, _⟩ := HOUT.out.shape
    have HLO := Lib.hid HP.out.len
    have hBel := HP.out.bel
    have hszc : cb ≤ wc.heap.size := by have := HP.out.size; omega
    have HUX : Hid (unxR s = some (out, x.bad)) := Lib.hid (by rw [HO.out, HE.out])
    clear HP x0 f0 f1 hl1 hl2
    by_cases hbad : x.bad = true
    · have HNO : Hid (¬ okXR s) := Lib.hid (by
        rintro ⟨o, h, _⟩
        rw [HUX.out] at h
        have h2 : x.bad = false := congrArg Prod.snd (Option.some.inj h)
        rw [hbad] at h2
        simp at h2)
      rw [hbad] at x1
      clear hbad
      go_wp2_with fail
      go_ret2
      exact ⟨by rw [HCB.out]; exact hBel, Or.inr ⟨HNO.out, _, rfl⟩⟩
    · have hbf : x.bad = false := by simpa using hbad
      rw [hbf] at x1
      have HUX2 : Hid (unxR s = some (out, false)) := Lib.hid (by rw [HUX.out, hbf])
      clear hbad hbf HUX
      by_cases hbig : 1000 < m
      · have HNO : Hid (¬ okXR s) := Lib.hid (by
          rintro ⟨o, h, h2, _⟩
          rw [HUX2.out] at h
          have h3 : out = o := congrArg Prod.fst (Option.some.inj h)
          rw [← h3] at h2
          have := HLO.out
          omega)
        go_wp2_with fail
        go_ret2
        exact ⟨by rw [HCB.out]; exact hBel, Or.inr ⟨HNO.out, _, rfl⟩⟩
      · have hm1 : m ≤ 1000 := by omega
        have hall : AllU out := unxR_all HUX2.out
        have HWO : Hid (∀ z ∈ out, (Lit.int .u64 z).wf = true) := Lib.hid fun z hz => by
          have := hall z hz
          unfold U64 at this
          exact wf_u64_of this.1 this.2
        obtain ⟨ts, hts⟩ : ∃ ts, (msTo out m).1 = ts := ⟨_, rfl⟩
        have HTS := measuresigns_any _ m out wc HOUT.out HLO.out HWO.out hm1
        rw [hts] at HTS
        have HTT := Lib.hid HTS
        have HMS := Lib.hid hts
        have hcmp := sbits_cmp ts s
        clear HTS hts hbig hall
        by_cases heq : ts = s
        · rw [decide_eq_true heq] at hcmp
          have HEQ := Lib.hid heq
          clear heq
          go_wp2_with fail
          refine HTT.out.mono ?_
          rintro e w7 ⟨rfl, hb7⟩
          go_wp2_with fail
          go_ret2
          exact ⟨by rw [HCB.out]; exact hBel.trans (hb7.mono hszc), Or.inl ⟨out, _, m, HUX2.out, by rw [HLO.out]; exact hm1, by rw [HLO.out, HMS.out, HEQ.out], rfl, HOUT.out.below hb7, HLO.out⟩⟩
        · rw [decide_eq_false heq] at hcmp
          have HNO : Hid (¬ okXR s) := Lib.hid (by
            rintro ⟨o, h, _, h2⟩
            rw [HUX2.out] at h
            have h3 : out = o := congrArg Prod.fst (Option.some.inj h)
            rw [← h3, HLO.out, HMS.out] at h2
            exact heq h2)
          clear heq
          go_wp2_with fail
          refine HTT.out.mono ?_
          rintro e w7 ⟨rfl, hb7⟩
          go_wp2_with fail
          go_ret2
          exact ⟨by rw [HCB.out]; exact hBel.trans (hb7.mono hszc), Or.inr ⟨HNO.out, _, rfl⟩⟩
end Go.Proofs.YtmbmognhbljliaaDoor.Xor
