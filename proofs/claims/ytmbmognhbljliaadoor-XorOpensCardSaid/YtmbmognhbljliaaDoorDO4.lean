/-
  The walk of TimesOf.
-/
import Derived.Test.YtmbmognhbljliaaDoorDO3
namespace Go.Proofs.YtmbmognhbljliaaDoor.Delta
open Go.RowKit Go.Gh Go.Proofs.YtmbmognhbljliaaDoor.Bits
set_option linter.unusedVariables false
/-- How far the reference's reading has come: the text's cell, the row of what was read. -/
structure TAt (w : World) (cb base : Nat) (s : List Bool) (out : List Int) (m : Nat) (u : Value) (wx : World) : Prop where
  box : wx.heap[cb]? = some (.cells #[.string (sbits s)] 9 (0, 0))
  own : wx.ownsRow base 2 1 u m (out.map (Value.int .i64))
  len : out.length = m
  bel : Below cb w wx
  size : base ≤ wx.heap.size
theorem TAt.cell {w : World} {cb base : Nat} {s : List Bool} {out : List Int} {m : Nat} {u : Value} {wx : World} (h : TAt w cb base s out m u wx) : wx.cell? ⟨cb, 0, none⟩ = some (.string (sbits s)) ∧ wx.frozen? ⟨cb, 0, none⟩ = false := row_cell 0 _ h.box rfl
theorem TAt.take {w : World} {cb base : Nat} {s s2 : List Bool} {out : List Int} {m : Nat} {u : Value} {wx : World} (h : TAt w cb base s out m u wx) (hb : cb < base) : TAt w cb base s2 out m u (wx.setCell ⟨cb, 0, none⟩ (.string (sbits s2))) := by
  refine ⟨by simpa using row_setCell 0 (.string (sbits s2)) h.box, ownsRow_setCell_other h.own (a := ⟨cb, 0, none⟩) (fun he => ?_) _, h.len, h.bel.setCell (p := ⟨cb, 0, none⟩) (Nat.le_refl _) _, by simpa using h.size⟩
  have := (h.own.lt _ he).1
  have h2 : (⟨cb, 0, none⟩ : Addr).block = cb := rfl
  omega
theorem TAt.below {w : World} {cb base : Nat} {s : List Bool} {out : List Int} {m : Nat} {u : Value} {wx wy : World} (h : TAt w cb base s out m u wx) (hb : cb < base) (hy : Below wx.heap.size wx wy) : TAt w cb base s out m u wy :=
  ⟨(hy.block cb (Array.getElem?_eq_some_iff.1 h.box).1).trans h.box, own_below h.own hy, h.len, h.bel.trans (hy.mono (by have := h.size; omega)), Nat.le_trans h.size hy.size⟩
theorem TAt.app {w wx wy : World} {cb base : Nat} {s : List Bool} {out : List Int} {m : Nat} {u v' : Value} {z : Int} (h : TAt w cb base s out m u wx) (hb : cb < base) (hown : wy.ownsRow base 2 1 v' (m + 1) (out.map (Value.int .i64) ++ [Value.int .i64 z])) (hg : wx.grownBy wy u.ownBlock) : TAt w cb base s (out ++ [z]) (m + 1) v' wy := by
  refine ⟨grown_block2 hg (fun he => by have := (h.own.lt _ he).1; omega) h.box, by rw [List.map_append]; exact hown, by simp [h.len], Below.grown h.bel hg (by have := h.size; omega) (fun k hk => by have := (h.own.lt _ hk).1; omega), Nat.le_trans h.size hg.size⟩
theorem take_t {w wr : World} {cb base : Nat} {s : List Bool} {out : List Int} {m : Nat} {u : Value} (n : Nat) (h : TAt w cb base s out m u wr) (hn : n ≤ 64) (hs : s.length ≤ 2000) (hb : cb < base) :
    Calls Tryd.prog 34 #[.int .i64 n, .pointer (some ⟨cb, 0, none⟩)] wr fun e w' => e = .returned (.string (sbits (tkR n s).1)) ∧ TAt w cb base (tkR n s).2 out m u w' := by
  obtain ⟨x0, f0⟩ := h.cell
  refine (take_any n cb s wr hn (by omega) x0 f0).mono ?_
  rintro e w' ⟨rfl, rfl⟩
  exact ⟨rfl, h.take hb⟩
theorem cmp1 : ((sbits [true]).toList == [49]) = true := by rw [ByteArray.toList_eq]; rfl
theorem cmp0 : ((sbits [false]).toList == [49]) = false := by rw [ByteArray.toList_eq]; rfl
theorem sbits_list (s : List Bool) : (sbits s).toList = s.map fun b => if b then (49 : UInt8) else 48 := by rw [ByteArray.toList_eq]; unfold sbits; simp
theorem bit_inj : ∀ (s t : List Bool), (s.map fun b => if b then (49 : UInt8) else 48) = (t.map fun b => if b then (49 : UInt8) else 48) → s = t
  | [], [], _ => rfl
  | [], _ :: _, h => by simp at h
  | _ :: _, [], h => by simp at h
  | a :: s, b :: t, h => by
    simp only [List.map_cons, List.cons.injEq] at h
    have h1 : a = b := by
      have := h.1
      cases a <;> cases b <;> simp at this <;> rfl
    rw [h1, bit_inj s t h.2]
theorem sbits_cmp (s t : List Bool) : ((sbits s).toList == (sbits t).toList) = decide (s = t) := by
  rw [sbits_list, sbits_list]
  by_cases h : s = t
  · rw [h]; simp
  · rw [decide_eq_false h, beq_eq_false_iff_ne]
    exact fun h' => h (bit_inj s t h')
theorem tkR_len (n : Nat) (s : List Bool) (hn : 0 < n) : 0 < (tkR n s).1.length ∧ (tkR n s).1.length ≤ n ∧ (tkR n s).2.length ≤ s.length := by
  unfold tkR
  split
  · simp; omega
  · simp; omega
theorem tkR_one (s : List Bool) : (tkR 1 s).1 = [true] ∨ (tkR 1 s).1 = [false] := by
  unfold tkR
  split
  · exact Or.inr rfl
  · cases s with
    | nil => simp at *
    | cons b t => cases b <;> simp
theorem kR_len : ∀ f s, (kR f s).1 ≤ f ∧ (kR f s).2.length ≤ s.length
  | 0, s => by simp [kR]
  | f + 1, s => by
    have h1 := tkR_len 1 s (by decide)
    rw [kR]
    split
    · have h2 := kR_len f (tkR 1 s).2
      simp only
      omega
    · simp only
      omega
def TPost (s : List Bool) (w : World) (e : Ending) (w' : World) : Prop := ∃ v n, e = .returned (.tuple #[v, .bool (decide (okR s))]) ∧ Sl w' 1 v n ((unpR s).map (Value.int .i64)) ∧ (unpR s).length = n ∧ Below w.heap.size w w'
set_option maxHeartbeats 8000000 in
set_option maxRecDepth 100000 in
theorem timesof_any (s : List Bool) (hs : s.length ≤ 2000) (w : World) :
    Calls Tryd.prog 15 #[.string (sbits s)] w (TPost s w) := by
  have hmf : ∀ (fn : Fn) (first cap : Array Value) (w : World), (Instr.makeFunc fn first cap).run Tryd.prog w = .ok (.func fn first cap) w := fun _ _ _ _ => rfl
  go_enter Tryd.func15, Tryd.ntmps15
  go_upto_region 1 with (fail)
  refine wp_abs (fun wA => wA.heap[w.heap.size]? = some (.cells #[.string (sbits s)] 9 (0, 0)) ∧ Below w.heap.size w wA ∧ w.heap.size + 1 ≤ wA.heap.size) ⟨heap_alloc_new w _, (Below.refl _ _).alloc (Nat.le_refl _) _, by simp⟩ ?_
  rintro wA ⟨hA0, hAb, hAs⟩
  obtain ⟨cb, hcb⟩ : ∃ cb, w.heap.size = cb := ⟨_, rfl⟩
  have HCB := Lib.hid hcb
  obtain ⟨base, hbase⟩ : ∃ base, cb + 1 = base := ⟨_, rfl⟩
  have hlt : cb < base := by omega
  rw [hcb] at hA0 hAb hAs ⊢
  rw [hbase] at hAs
  have hTA : TAt w cb base s [] 0 (.slice none 0 0) wA := ⟨hA0, World.ownsRow_nil _ _ _ _, rfl, hAb, hAs⟩
  obtain ⟨x0, f0⟩ := hTA.cell
  have HTA := Lib.hid hTA
  clear hTA hA0 hAb hAs hbase hcb
  obtain ⟨T, hT⟩ : ∃ T, tkR 16 s = T := ⟨_, rfl⟩
  obtain ⟨b16, s16⟩ := T
  have hl16 := tkR_len 16 s (by decide)
  have HC16 := take_any 16 cb s wA (by decide) (by omega) x0 f0
  rw [hT] at HC16 hl16
  have hV := valF_bd b16
  obtain ⟨K, hK⟩ : ∃ K : Nat, valF 0 b16 = K := ⟨(valF 0 b16).toNat, (Int.toNat_of_nonneg hV.1).symm⟩
  have hKb : K < 65536 := by
    have h1 : 2 ^ b16.length ≤ 2 ^ 16 := Nat.pow_le_pow_right (by decide) hl16.2.1
    have h2 := hV.2
    rw [two_pow_cast, hK] at h2
    have h3 : 2 ^ 16 = 65536 := by decide
    omega
  have hG : unpR s = goR K 0 [] s16 := by unfold unpR; rw [hT]; show goR (valF 0 b16).toNat 0 [] s16 = _; rw [hK, Int.toNat_natCast]
  obtain ⟨outF, hO⟩ : ∃ o, unpR s = o := ⟨_, rfl⟩
  have HO := Lib.hid hO
  have HG0 : Hid (goR K 0 [] s16 = outF) := Lib.hid (by rw [← hG, hO])
  have HCC := Lib.hid HC16
  have hl1 : b16.length ≤ 16 := hl16.2.1
  have hl2 : s16.length ≤ s.length := hl16.2.2
  have hb64 : b16.length ≤ 64 := by omega
  have hs16 : s16.length ≤ 2000 := by omega
  clear HC16 hV hG hO hT hl16
  have HV16 := valueof_any b16 hb64
  rw [hK] at HV16
  go_wp2_with fail
  refine HCC.out.mono ?_
  rintro e w4 ⟨rfl, rfl⟩
  go_wp2_with fail
  refine (HV16 _).mono ?_
  rintro e w5 ⟨rfl, rfl⟩
  have HT4 := Lib.hid (HTA.out.take (s2 := s16) hlt)
  clear HTA HCC x0 f0 HV16 hK hl1 hl2 hb64
  go_upto_block 0 with fail
  go_cut [6] (fun x wx => ∃ m s2, Hid (TAt w cb base s2 outF m x wx))
  case first =>
    go_wp2_with fail
    go_loopw [6, 8] (fun u i wx => ∃ (j f : Nat) (out : List Int) (s1 : List Bool), j + f = K ∧ i = .int .i64 j ∧ s1.length ≤ 2000 ∧ Hid (goR f j out s1 = outF) ∧ Hid (TAt w cb base s1 out j u wx)) (fun _ i _ => K - (intOf i).toNat)
    case atStart => exact ⟨0, K, [], s16, by omega, rfl, hs16, HG0, HT4⟩
    case round =>
      obtain ⟨j, f, out, s1, hjf, rfl, hs1, HG, HP⟩ := hrel
      obtain ⟨x0, f0⟩ := HP.out.cell
      have hsz : (sbits s1).size = s1.length := sbits_size s1
      cases f with
      | zero =>
        obtain rfl : j = K := by omega
        have e1 : out = outF := HG.out
        subst e1
        clear HG
        go_wp2_with fail
        go_meet
        exact ⟨_, _, HP⟩
      | succ f =>
        have hjK : j < K := by omega
        by_cases hs0 : s1 = []
        · have h1 := HG.out
          rw [goR, if_pos hs0] at h1
          subst h1
          have hz : s1.length = 0 := by rw [hs0]; rfl
          rw [hz] at hsz
          clear HG hs0
          go_wp2_with fail
          go_meet
          exact ⟨_, _, HP⟩
        · have hpos : 0 < s1.length := List.length_pos_iff.2 hs0
          have h1 := HG.out
          rw [goR, if_neg hs0] at h1
          clear HG hs0
          by_cases hj0 : j = 0
          · subst hj0
            rw [if_pos rfl] at h1
            have HC := take_t 64 HP.out (by decide) hs1 hlt
            have hl := tkR_len 64 s1 (by decide)
            obtain ⟨T, hT⟩ : ∃ T, tkR 64 s1 = T := ⟨_, rfl⟩
            obtain ⟨b2, s2⟩ := T
            rw [hT] at HC hl h1
            have hb2 : b2.length ≤ 64 := hl.2.1
            have hs2 : s2.length ≤ 2000 := Nat.le_trans hl.2.2 hs1
            have HCC := Lib.hid HC
            have HVV := valueof_any b2 hb2
            obtain ⟨V, hV⟩ : ∃ V, valF 0 b2 = V := ⟨_, rfl⟩
            rw [hV] at HVV
            have HG3 : Hid (goR f (0 + 1) (out ++ [wrap64 V]) s2 = outF) := Lib.hid (by
              have h : goR f 1 (out ++ [wI (valF 0 b2)]) s2 = outF := h1
              have e : wI V = wrap64 V := IntWalk.i64_left V
              rw [hV, e] at h
              exact h)
            clear HC hl h1 hT hV
            go_wp2_with fail
            refine HCC.out.mono ?_
            rintro e w5 ⟨rfl, hP5⟩
            have HP5 := Lib.hid hP5
            clear hP5
            go_wp2_with fail
            refine (HVV _).mono ?_
            rintro e w5' ⟨rfl, rfl⟩
            have hown := HP5.out.own
            have hsz2 := HP5.out.size
            clear HVV HCC x0 f0
            go_wp2_with (at_builtin; refine append1 [Value.int .i64 (wrap64 V)] elI64 rfl _ _ rfl hown (Below.refl base _) hsz2 rfl rfl rfl (by intro u hu; simp at hu; subst hu; rfl) ?c4 ?c5 ?_)
            case c4 => omega
            case c5 => omega
            intro v' w6 hown6 _ hg6
            have HP6 := Lib.hid (HP5.out.app hlt hown6 hg6)
            clear hown6 hg6 hown
            go_wp2_with fail
            go_roundw
            case rel => exact ⟨0 + 1, f, _, s2, by omega, by go_num, hs2, HG3, HP6⟩
            case measure => simp [intOf]; omega
          · rw [if_neg hj0] at h1
            have hjb : ((j : Int) == 0) = false := by rw [beq_eq_false_iff_ne]; omega
            have H1 := Lib.hid h1
            clear h1
            go_upto_block 2 with fail
            go_cut [9] (fun x wx => ∃ (k : Nat) (s2 : List Bool), k ≤ 4 ∧ x = .int .i64 k ∧ s2.length ≤ 2000 ∧ Hid (kR 4 s1 = (k, s2)) ∧ Hid (TAt w cb base s2 out j u6 wx))
            case first =>
              go_wp2_with fail
              go_loopw [9] (fun x wx => ∃ (k f2 : Nat) (s3 : List Bool), k + f2 = 4 ∧ x = .int .i64 k ∧ s3.length ≤ 2000 ∧ Hid (kR 4 s1 = ((kR f2 s3).1 + k, (kR f2 s3).2)) ∧ Hid (TAt w cb base s3 out j u6 wx)) (fun x _ => 4 - (intOf x).toNat)
              case atStart => exact ⟨0, 4, s1, rfl, rfl, hs1, rfl, HP⟩
              case round =>
                clear x0 f0 hsz
                obtain ⟨k, f2, s3, hkf, rfl, hs3, HK, HP3⟩ := hrel
                obtain ⟨x0, f0⟩ := HP3.out.cell
                cases f2 with
                | zero =>
                  obtain rfl : k = 4 := by omega
                  go_wp2_with fail
                  go_meet
                  exact ⟨4, s3, by omega, rfl, hs3, by show _ = _; rw [HK.out]; simp [kR], HP3⟩
                | succ f2 =>
                  have hk4 : k < 4 := by omega
                  have HC := take_t 1 HP3.out (by decide) hs3 hlt
                  have hl := tkR_len 1 s3 (by decide)
                  have h11 := tkR_one s3
                  obtain ⟨T, hT⟩ : ∃ T, tkR 1 s3 = T := ⟨_, rfl⟩
                  obtain ⟨b2, s4⟩ := T
                  rw [hT] at HC hl h11
                  have hs4 : s4.length ≤ 2000 := Nat.le_trans hl.2.2 hs3
                  have HCC := Lib.hid HC
                  clear HC hl
                  rcases h11 with h11 | h11
                  · have hb2 : b2 = [true] := h11
                    subst hb2
                    have HK2 : Hid (kR 4 s1 = ((kR f2 s4).1 + (k + 1), (kR f2 s4).2)) := Lib.hid (by rw [HK.out, kR, hT, if_pos rfl]; simp [Nat.add_assoc, Nat.add_comm, Nat.add_left_comm])
                    clear hT HK h11
                    go_wp2_with fail
                    refine HCC.out.mono ?_
                    rintro e w5 ⟨rfl, hP5⟩
                    have HP5 := Lib.hid hP5
                    have hcm := cmp1
                    clear x0 f0 HCC hP5
                    go_wp2_with fail
                    go_roundw
                    case rel => exact ⟨k + 1, f2, s4, by omega, by go_num, hs4, HK2, HP5⟩
                    case measure => simp [intOf]; omega
                  · have hb2 : b2 = [false] := h11
                    subst hb2
                    have HK2 : Hid (kR 4 s1 = (k, s4)) := Lib.hid (by rw [HK.out, kR, hT, if_neg (by simp)]; simp)
                    clear hT HK h11
                    go_wp2_with fail
                    refine HCC.out.mono ?_
                    rintro e w5 ⟨rfl, hP5⟩
                    have HP5 := Lib.hid hP5
                    have hcm := cmp0
                    clear x0 f0 HCC hP5
                    go_wp2_with fail
                    go_meet
                    exact ⟨k, s4, by omega, rfl, hs4, HK2, HP5⟩
            obtain ⟨k, s2, hk4, rfl, hs2, HK, HP2⟩ := hcut
            clear x0 f0 hsz
            obtain ⟨x0, f0⟩ := HP2.out.cell
            go_upto_if 47 with (fail)
            go_cut [10] (fun x wx => ∃ (c : Int) (s3 : List Bool), x = .int .i64 c ∧ s3.length ≤ 2000 ∧ Hid (chR s1 = (c, s3)) ∧ Hid (TAt w cb base s3 out j u6 wx))
            case first =>
              have hk5 : k = 0 ∨ k = 1 ∨ k = 2 ∨ k = 3 ∨ k = 4 := by omega
              rcases hk5 with rfl | rfl | rfl | rfl | rfl
              · have HC0 : Hid (chR s1 = (0, s2)) := Lib.hid (by unfold chR; rw [HK.out, if_pos rfl])
                go_wp2_with fail
                go_meet
                exact ⟨0, s2, rfl, hs2, HC0, HP2⟩
              · have HC0 : Hid (chR s1 = (sgR (tkR 7 s2).1, (tkR 7 s2).2)) := Lib.hid (by unfold chR; rw [HK.out, if_neg (by simp)]; rfl)
                have HPA := HP2.out.below hlt ((Below.refl _ wc).alloc (Nat.le_refl _) (Obj.cells #[.int .i64 0, .int .i64 7, .int .i64 9, .int .i64 12, .int .i64 64] 3))
                have HC := take_t 7 HPA (by decide) hs2 hlt
                have hl := tkR_len 7 s2 (by decide)
                obtain ⟨T, hT⟩ : ∃ T, tkR 7 s2 = T := ⟨_, rfl⟩
                obtain ⟨b2, s4⟩ := T
                rw [hT] at HC hl HC0
                have hb0 : 0 < b2.length := hl.1
                have hb2 : b2.length ≤ 64 := Nat.le_trans hl.2.1 (by decide)
                have hs4 : s4.length ≤ 2000 := Nat.le_trans hl.2.2 hs2
                have HSG := signed_any b2 hb0 hb2
                have HCC := Lib.hid HC
                clear HC hl hT HK HPA
                go_wp2_with fail
                refine HCC.out.mono ?_
                rintro e w5 ⟨rfl, hP5⟩
                have HP5 := Lib.hid hP5
                clear hP5 HCC x0 f0
                go_wp2_with fail
                refine (HSG _).mono ?_
                rintro e w6 ⟨rfl, rfl⟩
                go_wp2_with fail
                go_meet
                exact ⟨_, s4, rfl, hs4, HC0, HP5⟩
              · have HC0 : Hid (chR s1 = (sgR (tkR 9 s2).1, (tkR 9 s2).2)) := Lib.hid (by unfold chR; rw [HK.out, if_neg (by simp)]; rfl)
                have HPA := HP2.out.below hlt ((Below.refl _ wc).alloc (Nat.le_refl _) (Obj.cells #[.int .i64 0, .int .i64 7, .int .i64 9, .int .i64 12, .int .i64 64] 3))
                have HC := take_t 9 HPA (by decide) hs2 hlt
                have hl := tkR_len 9 s2 (by decide)
                obtain ⟨T, hT⟩ : ∃ T, tkR 9 s2 = T := ⟨_, rfl⟩
                obtain ⟨b2, s4⟩ := T
                rw [hT] at HC hl HC0
                have hb0 : 0 < b2.length := hl.1
                have hb2 : b2.length ≤ 64 := Nat.le_trans hl.2.1 (by decide)
                have hs4 : s4.length ≤ 2000 := Nat.le_trans hl.2.2 hs2
                have HSG := signed_any b2 hb0 hb2
                have HCC := Lib.hid HC
                clear HC hl hT HK HPA
                go_wp2_with fail
                refine HCC.out.mono ?_
                rintro e w5 ⟨rfl, hP5⟩
                have HP5 := Lib.hid hP5
                clear hP5 HCC x0 f0
                go_wp2_with fail
                refine (HSG _).mono ?_
                rintro e w6 ⟨rfl, rfl⟩
                go_wp2_with fail
                go_meet
                exact ⟨_, s4, rfl, hs4, HC0, HP5⟩
              · have HC0 : Hid (chR s1 = (sgR (tkR 12 s2).1, (tkR 12 s2).2)) := Lib.hid (by unfold chR; rw [HK.out, if_neg (by simp)]; rfl)
                have HPA := HP2.out.below hlt ((Below.refl _ wc).alloc (Nat.le_refl _) (Obj.cells #[.int .i64 0, .int .i64 7, .int .i64 9, .int .i64 12, .int .i64 64] 3))
                have HC := take_t 12 HPA (by decide) hs2 hlt
                have hl := tkR_len 12 s2 (by decide)
                obtain ⟨T, hT⟩ : ∃ T, tkR 12 s2 = T := ⟨_, rfl⟩
                obtain ⟨b2, s4⟩ := T
                rw [hT] at HC hl HC0
                have hb0 : 0 < b2.length := hl.1
                have hb2 : b2.length ≤ 64 := Nat.le_trans hl.2.1 (by decide)
                have hs4 : s4.length ≤ 2000 := Nat.le_trans hl.2.2 hs2
                have HSG := signed_any b2 hb0 hb2
                have HCC := Lib.hid HC
                clear HC hl hT HK HPA
                go_wp2_with fail
                refine HCC.out.mono ?_
                rintro e w5 ⟨rfl, hP5⟩
                have HP5 := Lib.hid hP5
                clear hP5 HCC x0 f0
                go_wp2_with fail
                refine (HSG _).mono ?_
                rintro e w6 ⟨rfl, rfl⟩
                go_wp2_with fail
                go_meet
                exact ⟨_, s4, rfl, hs4, HC0, HP5⟩
              · have HC0 : Hid (chR s1 = (sgR (tkR 64 s2).1, (tkR 64 s2).2)) := Lib.hid (by unfold chR; rw [HK.out, if_neg (by simp)]; rfl)
                have HPA := HP2.out.below hlt ((Below.refl _ wc).alloc (Nat.le_refl _) (Obj.cells #[.int .i64 0, .int .i64 7, .int .i64 9, .int .i64 12, .int .i64 64] 3))
                have HC := take_t 64 HPA (by decide) hs2 hlt
                have hl := tkR_len 64 s2 (by decide)
                obtain ⟨T, hT⟩ : ∃ T, tkR 64 s2 = T := ⟨_, rfl⟩
                obtain ⟨b2, s4⟩ := T
                rw [hT] at HC hl HC0
                have hb0 : 0 < b2.length := hl.1
                have hb2 : b2.length ≤ 64 := Nat.le_trans hl.2.1 (by decide)
                have hs4 : s4.length ≤ 2000 := Nat.le_trans hl.2.2 hs2
                have HSG := signed_any b2 hb0 hb2
                have HCC := Lib.hid HC
                clear HC hl hT HK HPA
                go_wp2_with fail
                refine HCC.out.mono ?_
                rintro e w5 ⟨rfl, hP5⟩
                have HP5 := Lib.hid hP5
                clear hP5 HCC x0 f0
                go_wp2_with fail
                refine (HSG _).mono ?_
                rintro e w6 ⟨rfl, rfl⟩
                go_wp2_with fail
                go_meet
                exact ⟨_, s4, rfl, hs4, HC0, HP5⟩
            obtain ⟨c, s3, rfl, hs3, HCR, HP3⟩ := hcut
            clear x0 f0 HK HP2
            obtain ⟨uo, uc, rfl, _, _, _⟩ := own_shape HP3.out.own
            have hj1 : 1 ≤ j := by omega
            obtain ⟨I1, hI1⟩ : ∃ I : Nat, (j : Int) - 1 = I := ⟨j - 1, by omega⟩
            have hI1n : I1 = j - 1 := by omega
            go_upto_if 56 with (fail)
            go_cut [11] (fun x wx => x = .int .i64 (aheadR out j) ∧ Hid (TAt w cb base s3 out j (.slice uo j uc) wx))
            case first =>
              by_cases h1j : 1 < j
              · obtain ⟨b1, off1, rfl, hc1⟩ := (own_sl HP3.out.own).int (i := I1) (by omega)
                obtain ⟨I2, hI2⟩ : ∃ I : Nat, (j : Int) - 2 = I := ⟨j - 2, by omega⟩
                have hI2n : I2 = j - 2 := by omega
                obtain ⟨b2, off2, he2, hc2⟩ := (own_sl HP3.out.own).int (i := I2) (by omega)
                obtain ⟨rfl, rfl⟩ : b1 = b2 ∧ off1 = off2 := by simpa using he2
                have HAH : Hid (aheadR out j = wI (out.getD I1 0 - out.getD I2 0)) := Lib.hid (by unfold aheadR; rw [if_pos h1j, hI1n, hI2n])
                obtain ⟨A, hA⟩ : ∃ A, out.getD I1 0 = A := ⟨_, rfl⟩
                obtain ⟨B, hB⟩ : ∃ B, out.getD I2 0 = B := ⟨_, rfl⟩
                rw [hA] at hc1 HAH
                rw [hB] at hc2 HAH
                have hI1j : I1 < j := by omega
                have hI2j : I2 < j := by omega
                clear he2 hA hB hI1n hI2n
                go_wp2_with fail
                go_quiet (fail)
                go_wp2
                go_meet
                refine ⟨?_, Lib.hid (HP3.out.below hlt (below_drewN (Below.refl _ wc) _))⟩
                rw [HAH.out]
                unfold wI
                first | rfl | rw [IntWalk.i64_left]
              · have HAH : Hid (aheadR out j = 0) := Lib.hid (by unfold aheadR; rw [if_neg h1j])
                go_wp2_with fail
                go_meet
                exact ⟨by rw [HAH.out], HP3⟩
            obtain ⟨rfl, HP4⟩ := hcut
            clear HP3
            obtain ⟨b1, off1, rfl, hc1⟩ := (own_sl HP4.out.own).int (i := I1) (by omega)
            have hI1j : I1 < j := by omega
            obtain ⟨ah, hah⟩ : ∃ a, aheadR out j = a := ⟨_, rfl⟩
            obtain ⟨A, hA⟩ : ∃ A, out.getD I1 0 = A := ⟨_, rfl⟩
            have hA2 : out.getD (j - 1) 0 = A := by rw [← hI1n]; exact hA
            obtain ⟨z1, hz1⟩ : ∃ z, wrap64 (A + ah) = z := ⟨_, rfl⟩
            obtain ⟨z2, hz2⟩ : ∃ z, wrap64 (z1 + c) = z := ⟨_, rfl⟩
            have HG3 : Hid (goR f (j + 1) (out ++ [z2]) s3 = outF) := Lib.hid (by
              have h := H1.out
              rw [HCR.out, hah, hA2] at h
              have e1 : wI (A + ah) = z1 := by rw [← hz1]; exact IntWalk.i64_left _
              have e2 : wI (z1 + c) = z2 := by rw [← hz2]; exact IntWalk.i64_left _
              have h' : goR f (j + 1) (out ++ [wI (wI (A + ah) + c)]) s3 = outF := h
              rw [e1, e2] at h'
              exact h')
            rw [hA] at hc1
            rw [hah]
            have hown := HP4.out.own
            have hsz2 := HP4.out.size
            clear hah hA hA2 H1 HCR hI1n
            go_wp2_with (at_builtin; refine append1 [Value.int .i64 z2] elI64 rfl _ _ rfl hown (Below.refl base _) hsz2 rfl rfl rfl (by intro u hu; simp at hu; subst hu; rfl) ?c4 ?c5 ?_)
            case c4 => omega
            case c5 => omega
            intro v' w6 hown6 _ hg6
            have HP6 := Lib.hid (HP4.out.app hlt hown6 hg6)
            clear hown6 hg6 hown
            go_wp2_with fail
            go_roundw
            case rel => exact ⟨j + 1, f, _, s3, by omega, by go_num, hs3, HG3, HP6⟩
            case measure => simp [intOf]; omega
  case rest =>
    obtain ⟨m, s2, HP⟩ := hcut
    have HOUT := Lib.hid (own_sl HP.out.own)
    obtain ⟨uo, uc, rfl, _, _, _⟩ := HOUT.out.shape
    have hlen := HP.out.len
    have HLO := Lib.hid hlen
    have hBel := HP.out.bel
    have hszc : cb ≤ wc.heap.size := by have := HP.out.size; omega
    have hall : AllI outF := by have := unpR_all s; rwa [HO.out] at this
    have HWO : Hid (∀ z ∈ outF, (Lit.int .i64 z).wf = true) := Lib.hid fun z hz => by
      have := hall z hz
      unfold I64 at this
      exact Go.WalkArith.wf_i64 ⟨this.1, by omega⟩
    clear hall HP hlen
    by_cases hbig : 1000 < m
    · have HNO : Hid (decide (okR s) = false) := Lib.hid (decide_eq_false fun h => by
        have h2 := h.1
        rw [HO.out] at h2
        have := HLO.out
        omega)
      go_wp2_with fail
      go_ret2
      show TPost _ _ _ _
      refine ⟨_, m, by rw [HNO.out]; rfl, ?_, ?_, by rw [HCB.out]; exact hBel⟩
      · rw [HO.out]; exact HOUT.out
      · rw [HO.out]; exact HLO.out
    · have hm1 : m ≤ 1000 := by omega
      obtain ⟨ts, hts⟩ : ∃ ts, tsTo outF m = ts := ⟨_, rfl⟩
      have HTS := timesigns_any _ m outF wc HOUT.out HLO.out HWO.out hm1
      rw [hts] at HTS
      have HDE : Hid (decide (okR s) = decide (ts = s)) := Lib.hid (by
        have : okR s ↔ ts = s := by
          unfold okR
          rw [HO.out, HLO.out, hts]
          exact ⟨fun h => h.2, fun h => ⟨hm1, h⟩⟩
        simp [this])
      have HTT := Lib.hid HTS
      have hcmp := sbits_cmp ts s
      obtain ⟨D, hD⟩ : ∃ D, decide (ts = s) = D := ⟨_, rfl⟩
      rw [hD] at hcmp HDE
      clear HTS hts hD hbig
      go_wp2_with fail
      refine HTT.out.mono ?_
      rintro e w7 ⟨rfl, hb7⟩
      go_wp2_with fail
      go_ret2
      show TPost _ _ _ _
      refine ⟨_, m, by rw [HDE.out]; rfl, ?_, ?_, by rw [HCB.out]; exact hBel.trans (hb7.mono hszc)⟩
      · rw [HO.out]; exact HOUT.out.below hb7
      · rw [HO.out]; exact HLO.out
end Go.Proofs.YtmbmognhbljliaaDoor.Delta
