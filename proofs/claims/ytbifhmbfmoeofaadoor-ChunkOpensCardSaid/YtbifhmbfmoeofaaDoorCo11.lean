/-
  The walk of xor.Unpack; slices.Equal at []uint64.
-/
import Derived.Test.YtbifhmbfmoeofaaDoorCo10
import Derived.Deep.CutBlock
namespace Go.Proofs.YtbifhmbfmoeofaaDoor.Xor
open Go.RowKit Go.Gh Go.Proofs.YtbifhmbfmoeofaaDoor.Bits Go.Proofs.YtbifhmbfmoeofaaDoor.Delta
set_option linter.unusedVariables false
theorem infoU64 : (Tryd.prog.info? 63).map (fun i => (i.zero, i.size, i.bytes)) = some (some (.int .u64 0), 1, 8) := by kernel_rfl
theorem elU64 : Elem Tryd.prog 46 63 1 8 := elem_of Tryd.underlying46 infoU64 rfl (by decide)
set_option maxRecDepth 100000 in
theorem eqx_any (v v' : Value) (n n' : Nat) (l l' : List Int) (w : World) (hs : Sl w 1 v n (l.map (Value.int .u64))) (ht : Sl w 1 v' n' (l'.map (Value.int .u64))) (hl : l.length = n) (hl' : l'.length = n') :
    Calls Tryd.prog 30 #[v, v'] w fun e w' => e = .returned (.bool (decide (l = l'))) ∧ Below w.heap.size w w' := by
  obtain ⟨ao, c, rfl, hnc, hc, _⟩ := hs.shape
  obtain ⟨bo, d, rfl, hod, hd, _⟩ := ht.shape
  have HL := Lib.hid hl
  have HL' := Lib.hid hl'
  by_cases hne : n = n'
  case neg =>
    have HF : Hid (decide (l = l') = false) := Lib.hid (decide_eq_false fun h => hne (by rw [← hl, ← hl', h]))
    have t1 : ((n : Int) != (n' : Int)) = true := by rw [bne_iff_ne]; omega
    clear hl hl' hne
    go_enter Tryd.func30, Tryd.ntmps30
    go_wp2_with fail
    go_ret
    exact ⟨ret_bool HF.out.symm, Below.refl _ _⟩
  subst hne
  clear hl hl'
  have t1 : ((n : Int) != (n : Int)) = false := by simp
  go_enter Tryd.func30, Tryd.ntmps30
  go_wp2_with fail
  go_loopw [5, 13] (fun _ i wr => ∃ k : Nat, k ≤ n ∧ i = .int .i64 k ∧ Below w.heap.size w wr ∧ Hid (l.take k = l'.take k)) (fun _ i _ => n - (intOf i).toNat)
  case atStart => exact ⟨0, by omega, rfl, Below.refl _ _, rfl⟩
  case round =>
    obtain ⟨k, hk, rfl, hbr, HE⟩ := hrel
    by_cases hlt : k < n
    · obtain ⟨b, off, rfl, hc1⟩ := (hs.below hbr).int (i := k) hlt
      obtain ⟨b', off', rfl, hc2⟩ := (ht.below hbr).int (i := k) hlt
      by_cases heq : l.getD k 0 = l'.getD k 0
      · have HN : Hid (l.take (k + 1) = l'.take (k + 1)) := Lib.hid (take_eq_step HE.out (by have := HL.out; omega) (by have := HL'.out; omega) heq)
        rw [heq] at hc1
        clear heq
        generalize l'.getD k 0 = z at *
        have hz : (z != z) = false := by simp
        go_wp2_with fail
        go_quiet (fail)
        go_wp2
        go_roundw
        case rel => exact ⟨k + 1, by omega, by go_num, below_drewN hbr _, HN⟩
        case measure => simp [intOf]; omega
      · have HF : Hid (decide (l = l') = false) := Lib.hid (decide_eq_false (ne_at heq))
        generalize l'.getD k 0 = z at *
        generalize l.getD k 0 = y at *
        have hz : (y != z) = true := by rw [bne_iff_ne]; exact heq
        clear heq
        go_wp2_with fail
        go_quiet (fail)
        go_wp2
        go_ret
        exact ⟨ret_bool HF.out.symm, below_drewN hbr _⟩
    · obtain rfl : k = n := by omega
      have HF : Hid (decide (l = l') = true) := Lib.hid (decide_eq_true (by
        have h := HE.out
        rwa [List.take_of_length_le (by rw [HL.out]; exact Nat.le_refl _), List.take_of_length_le (by rw [HL'.out]; exact Nat.le_refl _)] at h))
      go_wp2_with fail
      go_ret
      exact ⟨ret_bool HF.out.symm, hbr⟩
/-- How far the reading has come: the reader, the window, the row of what was read. -/
structure UxAt (w3 : World) (rb wb base : Nat) (bs : Value) (len : Nat) (l : List Int) (N : Nat) (s : Rd) (out : List Int) (m : Nat) (u : Value) (wx : World) : Prop where
  wd : WdAt w3 rb wb bs len l N s wx
  own : wx.ownsRow base 63 1 u m (out.map (Value.int .u64))
  len : out.length = m
  size : base ≤ wx.heap.size
theorem UxAt.take {w3 wx wy : World} {rb wb base : Nat} {bs : Value} {len : Nat} {l : List Int} {N : Nat} {s s2 : Rd} {out : List Int} {m : Nat} {u : Value} (h : UxAt w3 rb wb base bs len l N s out m u wx) (hr : WdAt w3 rb wb bs len l N s2 wy) (hg : Two wx wy rb wb) (hb : rb < base) (hb2 : wb < base) : UxAt w3 rb wb base bs len l N s2 out m u wy :=
  ⟨hr, hg.own h.own hb hb2, h.len, Nat.le_trans h.size hg.1⟩
theorem UxAt.app {w3 wx wy : World} {rb wb base : Nat} {bs : Value} {len : Nat} {l : List Int} {N : Nat} {s : Rd} {out : List Int} {m : Nat} {u v' : Value} {z : Int} (h : UxAt w3 rb wb base bs len l N s out m u wx) (hb : rb < base) (hb2 : wb < base) (hbase : w3.heap.size ≤ base) (hown : wy.ownsRow base 63 1 v' (m + 1) (out.map (Value.int .u64) ++ [Value.int .u64 z])) (hg : wx.grownBy wy u.ownBlock) :
    UxAt w3 rb wb base bs len l N s (out ++ [z]) (m + 1) v' wy := by
  obtain ⟨⟨⟨a, ha, hi, hr⟩, hgr⟩, hw⟩ := h.wd
  refine ⟨⟨⟨⟨a, ha, grown_block2 hg (fun he => by have := (h.own.lt _ he).1; omega) hi, hr⟩, grown_past hgr hg (fun k hk => by have := (h.own.lt _ hk).1; omega)⟩, grown_block2 hg (fun he => by have := (h.own.lt _ he).1; omega) hw⟩, ?_, by simp [h.len], Nat.le_trans h.size hg.size⟩
  rw [List.map_append]
  exact hown
theorem wf_u64_of {z : Int} (h0 : 0 ≤ z) (h1 : z < 18446744073709551616) : (Lit.int .u64 z).wf = true := by
  simp [Lit.wf, IntKind.min, IntKind.max, IntKind.signed, IntKind.bits]
  omega
def UPost (l : List Int) (N : Int) (w : World) (e : Ending) (w' : World) : Prop :=
  Below w.heap.size w w' ∧ ((okB l N ∧ okXI (unpack l N.toNat) ∧ ∃ v n, e = .returned (.tuple #[v, .int .i64 0]) ∧ Sl w' 1 v n ((unxI (unpack l N.toNat)).1.map (Value.int .u64)) ∧ (unxI (unpack l N.toNat)).1.length = n) ∨ (¬ (okB l N ∧ okXI (unpack l N.toNat)) ∧ e = .returned (.tuple #[.slice none 0 0, .int .i64 4])))
set_option maxHeartbeats 8000000 in
set_option maxRecDepth 100000 in
theorem unpack_any (v : Value) (l : List Int) (N : Int) (w : World) (hv : BitsV w v l N) (hN : N ≤ 4000) (hT : TabX w) (hT2 : 2 ≤ w.heap.size) :
    Calls Tryd.prog 28 #[v] w (UPost l N w) := by
  have hv0 := hv
  obtain ⟨b, len, rfl, hs, hby, hwf, hlen, hN0, hN1⟩ := hv
  obtain ⟨ao, cp, rfl, hnc, hcp, hll⟩ := hs.shape
  have hll : l.length = len := by simpa using hll
  have HS0 := Lib.hid hs
  have HWF := Lib.hid hwf
  have HBY := Lib.hid hby
  have HLL := Lib.hid hll
  have HT := Lib.hid hT
  have hw0 : 0 < w.heap.size := by omega
  clear hs hwf hby hll hT
  go_enter Tryd.func28, Tryd.ntmps28
  go_upto_region 1 with (fail)
  refine wp_abs (fun wA => wA.heap[w.heap.size]? = some (.cells #[.slice ao len cp, .int .i64 N] 39 (0, 0)) ∧ Below w.heap.size w wA ∧ w.heap.size < wA.heap.size) ⟨heap_alloc_new w _, (Below.refl _ _).alloc (Nat.le_refl _) _, by simp⟩ ?_
  rintro wA ⟨hA0, hAb, hAs⟩
  obtain ⟨⟨x0, x1⟩, -⟩ := box2 hA0
  by_cases hok : okB l N
  case neg =>
    have HF : Hid (faultB l N = 4) := Lib.hid (if_neg hok)
    have HNO : Hid (¬ (okB l N ∧ okXI (unpack l N.toNat))) := Lib.hid fun h => hok h.1
    clear hok
    go_wp2_with fail
    refine (check_any _ l N _ (bv_below hv0 hAb)).mono ?_
    rw [HF.out]
    rintro e w1 ⟨rfl, hb1⟩
    go_wp2_with fail
    go_ret2
    exact ⟨hAb.trans (hb1.mono hAb.size), Or.inr ⟨HNO.out, rfl⟩⟩
  have HF : Hid (faultB l N = 0) := Lib.hid (if_pos hok)
  have hN8 : 0 ≤ N ∧ N ≤ 8 * l.length := ⟨hok.1, hok.2.1⟩
  rw [HLL.out] at hN8
  have HOK := Lib.hid hok
  clear hok
  obtain ⟨M, rfl⟩ : ∃ M : Nat, N = M := ⟨N.toNat, by omega⟩
  go_wp2_with fail
  refine (check_any _ l M _ (bv_below hv0 hAb)).mono ?_
  rw [HF.out]
  rintro e w1 ⟨rfl, hb1⟩
  have hB1 := hAb.trans (hb1.mono hAb.size)
  have hA1 := (hb1.block _ hAs).trans hA0
  have hs1 : w.heap.size < w1.heap.size := Nat.lt_of_lt_of_le hAs hb1.size
  clear x0 x1 hA0 hb1 hAb hAs
  obtain ⟨⟨x0, x1⟩, -⟩ := box2 hA1
  go_upto_region 5 with (fail)
  refine wp_abs (fun wx => wx.heap[w.heap.size]? = some (.cells #[.slice ao len cp, .int .i64 M] 39 (0, 0)) ∧ RInv wx w1.heap.size (.slice ao len cp) M 0 false ∧ Below w.heap.size w wx ∧ w1.heap.size < wx.heap.size)
    ⟨(Below.heap_alloc _ _ _ (by omega)).trans hA1, heap_alloc_new w1 _, hB1.alloc hB1.size _, by simp⟩ ?_
  have hne := sl_old (HS0.out.below hB1) (by decide)
  obtain ⟨rb, hrb⟩ : ∃ rb, w1.heap.size = rb := ⟨_, rfl⟩
  rw [hrb] at hs1 hne ⊢
  clear hA1 x0 x1 hrb hB1
  rintro w3 ⟨q3, hR3, hB3, hs3⟩
  have HS3 := Lib.hid (HS0.out.below hB3)
  have HNE := Lib.hid hne
  have HRD : Hid (RAt w3 rb (.slice ao len cp) len l M (unpack l M) false w3) := Lib.hid ⟨⟨0, Nat.zero_le _, hR3, List.drop_zero⟩, World.grownBy.refl _ _⟩
  have HB3 := Lib.hid hB3
  have Q3 := Lib.hid q3
  obtain ⟨wb, hwb⟩ : ∃ wb, w3.heap.size = wb := ⟨_, rfl⟩
  have hrw : rb ≠ wb := by omega
  have HWB := Lib.hid hwb
  clear hR3 hB3 q3
  go_upto_region 8 with (fail)
  refine wp_abs (fun wx => RAt w3 rb (.slice ao len cp) len l M (unpack l M) false wx ∧ wx.heap[wb]? = some (.cells #[.bool false, .int .i64 0, .int .i64 0] 83 (0, 0)) ∧ wb < wx.heap.size) ⟨rat_below HRD.out ((Below.refl _ w3).alloc (Nat.le_refl _) _), by rw [← hwb]; exact heap_alloc_new w3 _, by rw [← hwb]; simp⟩ ?_
  rintro w4 ⟨hrd4, hwin4, hs4⟩
  have HRD4 := Lib.hid hrd4
  have HWN4 := Lib.hid hwin4
  clear hrd4 hwin4 hwb HRD
  have HC16 := take_at 16 HS3.out HWF.out hlen (by omega) (by decide) HNE.out HRD4.out
  obtain ⟨T, hT16⟩ : ∃ T, tk 16 (unpack l M) false = T := ⟨_, rfl⟩
  have hVb := tk_bd 16 (unpack l M) false
  rw [hT16] at HC16 hVb
  obtain ⟨V, r0, sh0⟩ := T
  obtain ⟨K, rfl⟩ : ∃ K : Nat, V = K := ⟨V.toNat, (Int.toNat_of_nonneg hVb.1).symm⟩
  have hK : K < 65536 := by
    have h := hVb.2
    have e : (2 : Int) ^ 16 = 65536 := by decide
    rw [e] at h
    have : ((K : Int)) < 65536 := h
    omega
  obtain ⟨R, hR⟩ : ∃ R, unxI (unpack l M) = R := ⟨_, rfl⟩
  obtain ⟨outF, shF⟩ := R
  have HU := Lib.hid hR
  have HGO : Hid (gxI K true 0 [] { r := r0, sh := sh0, is := false, ld := 0, tl := 0 } = (outF, shF)) := Lib.hid (by rw [← hR]; unfold unxI; rw [hT16]; rfl)
  have HCC := Lib.hid HC16
  clear HC16 hVb hR hT16
  go_wp2_with fail
  refine HCC.out.mono ?_
  rintro e w5 ⟨rfl, hr5, hg5⟩
  obtain ⟨base, hbase⟩ : ∃ base, w4.heap.size = base := ⟨_, rfl⟩
  have hrbb : rb < base := by have := HWB.out; omega
  have hwbb : wb < base := by omega
  have h3b : w3.heap.size ≤ base := by have := HWB.out; omega
  have hww : w3.heap.size ≤ wb := by have := HWB.out; omega
  have hUP : UxAt w3 rb wb base (.slice ao len cp) len l M { r := r0, sh := sh0, is := false, ld := 0, tl := 0 } [] 0 (.slice none 0 0) w5 :=
    ⟨⟨hr5, (hg5.block wb hs4 (by simp; omega)).trans HWN4.out⟩, World.ownsRow_nil _ _ _ _, rfl, by rw [← hbase]; exact hg5.size⟩
  have HUP := Lib.hid hUP
  have HWB0 : Hid (WB { r := r0, sh := sh0, is := false, ld := 0, tl := 0 }) := Lib.hid (by unfold WB; simp)
  clear hr5 hg5 hUP hbase HCC HRD4 HWN4 hs4
  go_upto_block 0 with fail
  go_cut [6] (fun x wx => ∃ m s, m ≤ K ∧ Hid (s.sh = shF) ∧ Hid (UxAt w3 rb wb base (.slice ao len cp) len l M s outF m x wx))
  case first =>
    go_wp2_with fail
    go_loopw [6, 7, 10] (fun u a i wx => ∃ (j f : Nat) (last : Int) (out : List Int) (s : Rd), j + f = K ∧ i = .int .i64 j ∧ a = .int .u64 last ∧ Hid (U64 last) ∧ Hid (gxI f (decide (j = 0)) last out s = (outF, shF)) ∧ Hid (WB s) ∧ Hid (UxAt w3 rb wb base (.slice ao len cp) len l M s out j u wx)) (fun _ _ i _ => K - (intOf i).toNat)
    case atStart => exact ⟨0, K, 0, [], _, by omega, rfl, rfl, by unfold U64; exact ⟨by decide, by decide⟩, HGO, HWB0, HUP⟩
    case round =>
      obtain ⟨j, f, last, out, s, hjf, rfl, rfl, HLU, HG, HB, HP⟩ := hrel
      have hc3 := rat_cell HP.out.wd.rd
      cases f with
      | zero =>
        obtain rfl : j = K := by omega
        have h1 := HG.out
        rw [gxI] at h1
        have e1 : out = outF := congrArg Prod.fst h1
        have e2 : s.sh = shF := congrArg Prod.snd h1
        subst e1
        have HE2 := Lib.hid e2
        clear h1 HG e2
        go_wp2_with fail
        go_meet
        exact ⟨_, s, by omega, HE2, HP⟩
      | succ f =>
        have hjK : j < K := by omega
        by_cases hsh : s.sh = true
        · have h1 := HG.out
          rw [gxI, if_pos hsh] at h1
          have e1 : out = outF := congrArg Prod.fst h1
          have e2 : s.sh = shF := congrArg Prod.snd h1
          rw [hsh] at hc3
          subst e1
          have HE2 := Lib.hid e2
          clear h1 HG e2 hsh
          go_wp2_with fail
          go_meet
          exact ⟨_, s, by omega, HE2, HP⟩
        · have hshf : s.sh = false := by simpa using hsh
          have hj8 : (j + 1) * 8 ≤ 140737488355328 := by omega
          have h1 := HG.out
          rw [gxI, if_neg hsh] at h1
          rw [hshf] at hc3
          clear hsh hshf
          by_cases hj0 : j = 0
          · subst hj0
            rw [if_pos (by simp)] at h1
            have HC := take_at 64 HS3.out HWF.out hlen (by omega) (by decide) HNE.out HP.out.wd.rd
            have hu := tk_u s.r s.sh
            obtain ⟨T, hT⟩ : ∃ T, tk 64 s.r s.sh = T := ⟨_, rfl⟩
            obtain ⟨V, r2, sh2⟩ := T
            rw [hT] at HC h1 hu
            have HCC := Lib.hid HC
            have HVU : Hid (U64 V) := Lib.hid hu
            have HG3 : Hid (gxI f (decide (0 + 1 = 0)) V (out ++ [V]) { s with r := r2, sh := sh2 } = (outF, shF)) := Lib.hid h1
            clear HC h1 hT HG hu
            go_wp2_with fail
            refine HCC.out.mono ?_
            rintro e w6 ⟨rfl, hr6, hg6⟩
            have HP5 := Lib.hid (HP.out.take (HP.out.wd.take hrw hr6 hg6) (Two.one hg6) hrbb hwbb)
            clear hr6 hg6 HCC
            have hown := HP5.out.own
            have hsz := HP5.out.size
            go_wp2_with (at_builtin; refine append1 [Value.int .u64 V] elU64 rfl _ _ rfl hown (Below.refl base _) hsz rfl rfl rfl (by intro u hu; simp at hu; subst hu; rfl) ?c4 ?c5 ?_)
            case c4 => omega
            case c5 => omega
            intro v' w7 hown7 _ hg7
            have HP6 := Lib.hid (HP5.out.app hrbb hwbb h3b hown7 hg7)
            clear hown7 hg7 hown
            go_wp2_with fail
            go_roundw
            case rel => exact ⟨0 + 1, f, _, _, _, by omega, by go_num, rfl, HVU, HG3, HB, HP6⟩
            case measure => simp [intOf]; omega
          · rw [if_neg (by simp [hj0])] at h1
            have hjb : ((j : Int) == 0) = false := by rw [beq_eq_false_iff_ne]; omega
            have HC := turn_any HS3.out HWF.out hlen (by omega) HNE.out HP.out.wd HB.out hrw hww
            have hu := tnI_u s
            obtain ⟨T, hT⟩ : ∃ T, tnI s = T := ⟨_, rfl⟩
            obtain ⟨V, s2⟩ := T
            rw [hT] at HC h1 hu
            have HCC := Lib.hid HC
            have hxu := xor_u HLU.out hu
            obtain ⟨la2, hla2⟩ : ∃ x, xorI last V = x := ⟨_, rfl⟩
            rw [hla2] at hxu
            have HVU : Hid (U64 la2) := Lib.hid hxu
            have HXL := Lib.hid (show bits .xor .u64 last V = la2 from hla2)
            have HG3 : Hid (gxI f (decide (j + 1 = 0)) la2 (out ++ [la2]) s2 = (outF, shF)) := Lib.hid (by
              have h : gxI f false (xorI last V) (out ++ [xorI last V]) s2 = (outF, shF) := h1
              rw [hla2] at h
              rw [show decide (j + 1 = 0) = false from by simp]
              exact h)
            clear HC h1 hT HG hj0 hu hxu hla2
            go_wp2_with fail
            refine HCC.out.mono ?_
            rintro e w6 ⟨rfl, hwd6, hwb6, htw6⟩
            have HP5 := Lib.hid (HP.out.take hwd6 htw6 hrbb hwbb)
            have HWB6 := Lib.hid hwb6
            clear hwd6 hwb6 htw6 HCC
            have hown := HP5.out.own
            have hsz := HP5.out.size
            go_wp2_with (at_builtin; rw [HXL.out]; refine append1 [Value.int .u64 la2] elU64 rfl _ _ rfl hown (Below.refl base _) hsz rfl rfl rfl (by intro u hu; simp at hu; subst hu; rfl) ?c4 ?c5 ?_)
            case c4 => omega
            case c5 => omega
            intro v' w7 hown7 _ hg7
            have HP6 := Lib.hid (HP5.out.app hrbb hwbb h3b hown7 hg7)
            clear hown7 hg7 hown
            go_wp2_with fail
            go_roundw
            case rel => exact ⟨j + 1, f, _, _, s2, by omega, by go_num, rfl, HVU, HG3, HWB6, HP6⟩
            case measure => simp [intOf]; omega
  case rest =>
    obtain ⟨m, s, hmK, HSH, HP⟩ := hcut
    have hgr := HP.out.wd.rd.gr
    have hBc : Below w.heap.size w wc := Below.grown HB3.out hgr (by omega) (fun k hk => by simp at hk; omega)
    have QC := Lib.hid ((hgr.block w.heap.size (by omega) (by simp; omega)).trans Q3.out)
    have HTc := Lib.hid (HT.out.below (hBc.mono hT2))
    have hTc2 : 2 ≤ wc.heap.size := Nat.le_trans hT2 hBc.size
    have HSc := Lib.hid (Sl.grown HS3.out hgr HNE.out)
    have hc3 := rat_cell HP.out.wd.rd
    rw [HSH.out] at hc3
    have HOUT := Lib.hid (own_sl HP.out.own)
    have HLO := Lib.hid HP.out.len
    have hrbc : rb < wc.heap.size := by
      obtain ⟨⟨a, _, hi, _⟩, _⟩ := HP.out.wd.rd
      exact (Array.getElem?_eq_some_iff.1 hi).1
    have hall : AllU outF := by have := unxI_all (unpack l M); rwa [HU.out] at this
    have HWO : Hid (∀ z ∈ outF, (Lit.int .u64 z).wf = true) := Lib.hid fun z hz => by
      have := hall z hz
      unfold U64 at this
      exact wf_u64_of this.1 this.2
    obtain ⟨uo, uc, rfl, _, _, _⟩ := HOUT.out.shape
    clear hgr hall HP Q3 HS3 HSH
    by_cases hbig : 1000 < m
    · have HNO : Hid (¬ (okB l M ∧ okXI (unpack l (M : Int).toNat))) := Lib.hid fun h => by
        have h2 := h.2.2.1
        rw [Int.toNat_natCast, HU.out] at h2
        have h3 : outF.length ≤ 1000 := h2
        have := HLO.out
        omega
      have t2 : ((2 : Int) != 0) = true := by decide
      go_wp2_with fail
      refine (XorPacks.pack_large _ m _ _ HOUT.out hbig (by omega)).mono ?_
      rintro e w5 ⟨rfl, hb5⟩
      have hc5 := (hb5.cell (p := ⟨rb, 3, none⟩) hrbc).trans hc3
      have hrb5 := Nat.lt_of_lt_of_le hrbc hb5.size
      have hB5 := hBc.trans (hb5.mono hBc.size)
      have hB6 := hB5.alloc hB5.size (Obj.cells #[.slice none 0 0, .int .i64 0] 39)
      cases shF
      · go_wp2_with fail
        go_ret2
        exact ⟨hB6, Or.inr ⟨HNO.out, rfl⟩⟩
      · go_wp2_with fail
        go_ret2
        exact ⟨hB6, Or.inr ⟨HNO.out, rfl⟩⟩
    · have hm1 : m ≤ 1000 := by omega
      clear hbig
      obtain ⟨ts, hts⟩ : ∃ ts, (msTo outF m).1 = ts := ⟨_, rfl⟩
      have htl : ts.length ≤ 78080 := by rw [← hts]; have := ms_len outF m; omega
      have HTS := Lib.hid hts
      have HP := pack_any _ m outF _ HOUT.out HLO.out HWO.out hm1 HTc.out hTc2
      rw [hts] at HP
      have HPK := Lib.hid HP
      obtain ⟨L, hL⟩ : ∃ L, pack ts = L := ⟨_, rfl⟩
      have HLL2 := Lib.hid hL
      clear HP hts
      by_cases hgood : shF = false ∧ ts = unpack l M
      · obtain ⟨rfl, hgd⟩ := hgood
        have HGD := Lib.hid hgd
        have hLl : L = l := by rw [← hL, hgd]; exact pack_unpack l M HBY.out HOK.out
        have htM : ts.length = M := by rw [hgd, unpack_len]
        have HYES : Hid (okB l M ∧ okXI (unpack l (M : Int).toNat)) := Lib.hid ⟨HOK.out, by
          rw [Int.toNat_natCast]
          refine ⟨by rw [HU.out], by rw [HU.out]; show outF.length ≤ 1000; rw [HLO.out]; exact hm1, ?_⟩
          rw [HU.out]
          show (msTo outF outF.length).1 = _
          rw [HLO.out, HTS.out, HGD.out]⟩
        clear hgd
        go_wp2_with fail
        refine HPK.out.mono ?_
        rintro e w5 ⟨vb, rfl, hownb, hb5⟩
        rw [hL, hLl] at hownb
        rw [htM]
        have hslb := own_sl hownb
        obtain ⟨po, pc, rfl, _, _, _⟩ := hslb.shape
        have HSLB := Lib.hid hslb
        have hc5 := (hb5.cell (p := ⟨rb, 3, none⟩) hrbc).trans hc3
        have hrb5 := Nat.lt_of_lt_of_le hrbc hb5.size
        have q5 := (hb5.block w.heap.size (by omega)).trans QC.out
        have hB5 := hBc.trans (hb5.mono hBc.size)
        clear hownb hslb hL hLl htM
        go_upto_region 17 with (fail)
        refine wp_abs (fun wx => wx.heap[w.heap.size]? = some (.cells #[.slice ao len cp, .int .i64 M] 39 (0, 0)) ∧ wx.heap[w5.heap.size]? = some (.cells #[.slice po l.length pc, .int .i64 M] 39 (0, 0)) ∧ wx.cell? ⟨rb, 3, none⟩ = some (.bool false) ∧ Below w.heap.size w wx ∧ Below wc.heap.size wc wx ∧ Below w5.heap.size w5 wx)
          ⟨(Below.heap_alloc _ _ _ (by omega)).trans q5, heap_alloc_new w5 _, ((Below.refl w5.heap.size w5).alloc (Nat.le_refl _) _ |>.cell (p := ⟨rb, 3, none⟩) hrb5).trans hc5, hB5.alloc hB5.size _, hb5.alloc hb5.size _, (Below.refl _ w5).alloc (Nat.le_refl _) _⟩ ?_
        rintro w6 ⟨q6, p6, c6, hB6, hb6, hb56⟩
        obtain ⟨⟨x0, x1⟩, -⟩ := box2 q6
        obtain ⟨⟨y0, y1⟩, -⟩ := box2 p6
        have t1 : ((M : Int) != (M : Int)) = false := by simp
        have HE := eqb_any _ _ l.length len l l w6 (HSLB.out.below hb56) (HSc.out.below hb6) rfl HLL.out
        rw [show decide (l = l) = true from by simp] at HE
        have HEQ := Lib.hid HE
        clear HE
        go_wp2_with fail
        refine HEQ.out.mono ?_
        rintro e w7 ⟨rfl, hb7⟩
        go_wp2_with fail
        go_ret2
        exact ⟨hB6.trans (hb7.mono hB6.size), Or.inl ⟨HYES.out.1, HYES.out.2, _, m, rfl, by rw [Int.toNat_natCast, HU.out]; exact (HOUT.out.below hb6).below hb7, by rw [Int.toNat_natCast, HU.out]; exact HLO.out⟩⟩
      · have HNO : Hid (¬ (okB l M ∧ okXI (unpack l (M : Int).toNat))) := Lib.hid fun h => by
          obtain ⟨_, h1, h2, h3⟩ := h
          rw [Int.toNat_natCast, HU.out] at h1 h2 h3
          refine hgood ⟨h1, ?_⟩
          have h4 : (msTo outF outF.length).1 = unpack l M := h3
          rw [HLO.out, HTS.out] at h4
          exact h4
        go_wp2_with fail
        refine HPK.out.mono ?_
        rintro e w5 ⟨vb, rfl, hownb, hb5⟩
        have hLb : L.length ≤ 10000 := by rw [← hL, pack_len]; omega
        rw [hL] at hownb
        have hslb := own_sl hownb
        obtain ⟨po, pc, rfl, _, _, _⟩ := hslb.shape
        have HSLB := Lib.hid hslb
        have hc5 := (hb5.cell (p := ⟨rb, 3, none⟩) hrbc).trans hc3
        have hrb5 := Nat.lt_of_lt_of_le hrbc hb5.size
        have q5 := (hb5.block w.heap.size (by omega)).trans QC.out
        have hB5 := hBc.trans (hb5.mono hBc.size)
        clear hownb hslb
        obtain ⟨M2, hM2⟩ : ∃ M2, ts.length = M2 := ⟨_, rfl⟩
        have HM2 := Lib.hid hM2
        rw [hM2]
        clear hM2
        go_upto_region 17 with (fail)
        refine wp_abs (fun wx => wx.heap[w.heap.size]? = some (.cells #[.slice ao len cp, .int .i64 M] 39 (0, 0)) ∧ wx.heap[w5.heap.size]? = some (.cells #[.slice po L.length pc, .int .i64 M2] 39 (0, 0)) ∧ wx.cell? ⟨rb, 3, none⟩ = some (.bool shF) ∧ Below w.heap.size w wx ∧ Below wc.heap.size wc wx ∧ Below w5.heap.size w5 wx)
          ⟨(Below.heap_alloc _ _ _ (by omega)).trans q5, heap_alloc_new w5 _, ((Below.refl w5.heap.size w5).alloc (Nat.le_refl _) _ |>.cell (p := ⟨rb, 3, none⟩) hrb5).trans hc5, hB5.alloc hB5.size _, hb5.alloc hb5.size _, (Below.refl _ w5).alloc (Nat.le_refl _) _⟩ ?_
        rintro w6 ⟨q6, p6, c6, hB6, hb6, hb56⟩
        obtain ⟨⟨x0, x1⟩, -⟩ := box2 q6
        obtain ⟨⟨y0, y1⟩, -⟩ := box2 p6
        cases shF with
        | true =>
          go_wp2_with fail
          go_ret2
          exact ⟨hB6, Or.inr ⟨HNO.out, rfl⟩⟩
        | false =>
          by_cases hMM : M2 = M
          · subst hMM
            have hne : ¬ L = l := fun h => hgood ⟨rfl, by
              have h5 := unpack_pack ts
              rw [hL, h, HM2.out] at h5
              exact h5.symm⟩
            have t1 : ((M2 : Int) != (M2 : Int)) = false := by simp
            have HE := eqb_any _ _ L.length len L l w6 (HSLB.out.below hb56) (HSc.out.below hb6) rfl HLL.out
            rw [decide_eq_false hne] at HE
            have HEQ := Lib.hid HE
            clear HE hne hgood
            go_wp2_with fail
            refine HEQ.out.mono ?_
            rintro e w7 ⟨rfl, hb7⟩
            go_wp2_with fail
            go_ret2
            exact ⟨hB6.trans (hb7.mono hB6.size), Or.inr ⟨HNO.out, rfl⟩⟩
          · have t1 : ((M2 : Int) != (M : Int)) = true := by rw [bne_iff_ne]; omega
            clear hMM hgood
            go_wp2_with fail
            go_ret2
            exact ⟨hB6, Or.inr ⟨HNO.out, rfl⟩⟩
end Go.Proofs.YtbifhmbfmoeofaaDoor.Xor
/-
  The walk of TimesOf.
-/
namespace Go.Proofs.YtbifhmbfmoeofaaDoor.Delta
open Go.RowKit Go.Gh Go.Proofs.YtbifhmbfmoeofaaDoor.Bits
set_option linter.unusedVariables false
/-- How far the reference's reading has come: the text's cell, the row of what was read. -/
structure TAt (w : World) (cb base : Nat) (s : List Bool) (out : List Int) (m : Nat) (u : Value) (wx : World) : Prop where
  box : wx.heap[cb]? = some (.cells #[.string (sbits s)] 9 (0, 0))
  own : wx.ownsRow base 2 1 u m (out.map (Value.int .i64))
  len : out.length = m
  bel : Below cb w wx
  size : base ≤ wx.heap.size
theorem TAt.cell {w : World} {cb base : Nat} {s : List Bool} {out : List Int} {m : Nat} {u : Value} {wx : World} (h : TAt w cb base s out m u wx) : wx.cell? ⟨cb, 0, none⟩ = some (.string (sbits s)) ∧ wx.frozen? ⟨cb, 0, none⟩ = false := row_cell 0 _ h.box rfl
theorem TAt.take {w : World} {cb base : Nat} {s s2 : List Bool} {out : List Int} {m : Nat} {u : Value} {wx : World} (h : TAt w cb base s out m u wx) (hb : cb < base) : TAt w cb base s2 out m u (wx.setCell ⟨cb, 0, none⟩ (.string (sbits s2))) := by
  refine ⟨by simpa using row_setCell 0 (.string (sbits s2)) h.box, ownsRow_setCell_other h.own (a := ⟨cb, 0, none⟩) (fun he => ?_) _, h.len, h.bel.setCell (p := ⟨cb, 0, none⟩) (Nat.le_refl _) _, by simpa using h.size⟩
  have := (h.own.lt _ he).1
  have h2 : (⟨cb, 0, none⟩ : Addr).block = cb := rfl
  omega
theorem TAt.below {w : World} {cb base : Nat} {s : List Bool} {out : List Int} {m : Nat} {u : Value} {wx wy : World} (h : TAt w cb base s out m u wx) (hb : cb < base) (hy : Below wx.heap.size wx wy) : TAt w cb base s out m u wy :=
  ⟨(hy.block cb (Array.getElem?_eq_some_iff.1 h.box).1).trans h.box, own_below h.own hy, h.len, h.bel.trans (hy.mono (by have := h.size; omega)), Nat.le_trans h.size hy.size⟩
theorem TAt.app {w wx wy : World} {cb base : Nat} {s : List Bool} {out : List Int} {m : Nat} {u v' : Value} {z : Int} (h : TAt w cb base s out m u wx) (hb : cb < base) (hown : wy.ownsRow base 2 1 v' (m + 1) (out.map (Value.int .i64) ++ [Value.int .i64 z])) (hg : wx.grownBy wy u.ownBlock) : TAt w cb base s (out ++ [z]) (m + 1) v' wy := by
  refine ⟨grown_block2 hg (fun he => by have := (h.own.lt _ he).1; omega) h.box, by rw [List.map_append]; exact hown, by simp [h.len], Below.grown h.bel hg (by have := h.size; omega) (fun k hk => by have := (h.own.lt _ hk).1; omega), Nat.le_trans h.size hg.size⟩
theorem take_t {w wr : World} {cb base : Nat} {s : List Bool} {out : List Int} {m : Nat} {u : Value} (n : Nat) (h : TAt w cb base s out m u wr) (hn : n ≤ 64) (hs : s.length ≤ 4000) (hb : cb < base) :
    Calls Tryd.prog 48 #[.int .i64 n, .pointer (some ⟨cb, 0, none⟩)] wr fun e w' => e = .returned (.string (sbits (tkR n s).1)) ∧ TAt w cb base (tkR n s).2 out m u w' := by
  obtain ⟨x0, f0⟩ := h.cell
  refine (take_any n cb s wr hn (by omega) x0 f0).mono ?_
  rintro e w' ⟨rfl, rfl⟩
  exact ⟨rfl, h.take hb⟩
theorem cmp1 : ((sbits [true]).toList == [49]) = true := by rw [ByteArray.toList_eq]; rfl
theorem cmp0 : ((sbits [false]).toList == [49]) = false := by rw [ByteArray.toList_eq]; rfl
theorem sbits_list (s : List Bool) : (sbits s).toList = s.map fun b => if b then (49 : UInt8) else 48 := by rw [ByteArray.toList_eq]; unfold sbits; simp
theorem bit_inj : ∀ (s t : List Bool), (s.map fun b => if b then (49 : UInt8) else 48) = (t.map fun b => if b then (49 : UInt8) else 48) → s = t
  | [], [], _ => rfl
  | [], _ :: _, h => by simp at h
  | _ :: _, [], h => by simp at h
  | a :: s, b :: t, h => by
    simp only [List.map_cons, List.cons.injEq] at h
    have h1 : a = b := by
      have := h.1
      cases a <;> cases b <;> simp at this <;> rfl
    rw [h1, bit_inj s t h.2]
theorem sbits_cmp (s t : List Bool) : ((sbits s).toList == (sbits t).toList) = decide (s = t) := by
  rw [sbits_list, sbits_list]
  by_cases h : s = t
  · rw [h]; simp
  · rw [decide_eq_false h, beq_eq_false_iff_ne]
    exact fun h' => h (bit_inj s t h')
theorem tkR_len (n : Nat) (s : List Bool) (hn : 0 < n) : 0 < (tkR n s).1.length ∧ (tkR n s).1.length ≤ n ∧ (tkR n s).2.length ≤ s.length := by
  unfold tkR
  split
  · simp; omega
  · simp; omega
theorem tkR_one (s : List Bool) : (tkR 1 s).1 = [true] ∨ (tkR 1 s).1 = [false] := by
  unfold tkR
  split
  · exact Or.inr rfl
  · cases s with
    | nil => simp at *
    | cons b t => cases b <;> simp
theorem kR_len : ∀ f s, (kR f s).1 ≤ f ∧ (kR f s).2.length ≤ s.length
  | 0, s => by simp [kR]
  | f + 1, s => by
    have h1 := tkR_len 1 s (by decide)
    rw [kR]
    split
    · have h2 := kR_len f (tkR 1 s).2
      simp only
      omega
    · simp only
      omega
def TPost (s : List Bool) (w : World) (e : Ending) (w' : World) : Prop := ∃ v n, e = .returned (.tuple #[v, .bool (decide (okR s))]) ∧ Sl w' 1 v n ((unpR s).map (Value.int .i64)) ∧ (unpR s).length = n ∧ Below w.heap.size w w'
set_option maxHeartbeats 8000000 in
set_option maxRecDepth 100000 in
theorem timesof_any (s : List Bool) (hs : s.length ≤ 4000) (w : World) :
    Calls Tryd.prog 25 #[.string (sbits s)] w (TPost s w) := by
  have hmf : ∀ (fn : Fn) (first cap : Array Value) (w : World), (Instr.makeFunc fn first cap).run Tryd.prog w = .ok (.func fn first cap) w := fun _ _ _ _ => rfl
  go_enter Tryd.func25, Tryd.ntmps25
  go_upto_region 1 with (fail)
  refine wp_abs (fun wA => wA.heap[w.heap.size]? = some (.cells #[.string (sbits s)] 9 (0, 0)) ∧ Below w.heap.size w wA ∧ w.heap.size + 1 ≤ wA.heap.size) ⟨heap_alloc_new w _, (Below.refl _ _).alloc (Nat.le_refl _) _, by simp⟩ ?_
  rintro wA ⟨hA0, hAb, hAs⟩
  obtain ⟨cb, hcb⟩ : ∃ cb, w.heap.size = cb := ⟨_, rfl⟩
  have HCB := Lib.hid hcb
  obtain ⟨base, hbase⟩ : ∃ base, cb + 1 = base := ⟨_, rfl⟩
  have hlt : cb < base := by omega
  rw [hcb] at hA0 hAb hAs ⊢
  rw [hbase] at hAs
  have hTA : TAt w cb base s [] 0 (.slice none 0 0) wA := ⟨hA0, World.ownsRow_nil _ _ _ _, rfl, hAb, hAs⟩
  obtain ⟨x0, f0⟩ := hTA.cell
  have HTA := Lib.hid hTA
  clear hTA hA0 hAb hAs hbase hcb
  obtain ⟨T, hT⟩ : ∃ T, tkR 16 s = T := ⟨_, rfl⟩
  obtain ⟨b16, s16⟩ := T
  have hl16 := tkR_len 16 s (by decide)
  have HC16 := take_any 16 cb s wA (by decide) (by omega) x0 f0
  rw [hT] at HC16 hl16
  have hV := valF_bd b16
  obtain ⟨K, hK⟩ : ∃ K : Nat, valF 0 b16 = K := ⟨(valF 0 b16).toNat, (Int.toNat_of_nonneg hV.1).symm⟩
  have hKb : K < 65536 := by
    have h1 : 2 ^ b16.length ≤ 2 ^ 16 := Nat.pow_le_pow_right (by decide) hl16.2.1
    have h2 := hV.2
    rw [two_pow_cast, hK] at h2
    have h3 : 2 ^ 16 = 65536 := by decide
    omega
  have hG : unpR s = goR K 0 [] s16 := by unfold unpR; rw [hT]; show goR (valF 0 b16).toNat 0 [] s16 = _; rw [hK, Int.toNat_natCast]
  obtain ⟨outF, hO⟩ : ∃ o, unpR s = o := ⟨_, rfl⟩
  have HO := Lib.hid hO
  have HG0 : Hid (goR K 0 [] s16 = outF) := Lib.hid (by rw [← hG, hO])
  have HCC := Lib.hid HC16
  have hl1 : b16.length ≤ 16 := hl16.2.1
  have hl2 : s16.length ≤ s.length := hl16.2.2
  have hb64 : b16.length ≤ 64 := by omega
  have hs16 : s16.length ≤ 4000 := by omega
  clear HC16 hV hG hO hT hl16
  have HV16 := valueof_any b16 hb64
  rw [hK] at HV16
  go_wp2_with fail
  refine HCC.out.mono ?_
  rintro e w4 ⟨rfl, rfl⟩
  go_wp2_with fail
  refine (HV16 _).mono ?_
  rintro e w5 ⟨rfl, rfl⟩
  have HT4 := Lib.hid (HTA.out.take (s2 := s16) hlt)
  clear HTA HCC x0 f0 HV16 hK hl1 hl2 hb64
  go_upto_block 0 with fail
  go_cut [6] (fun x wx => ∃ m s2, Hid (TAt w cb base s2 outF m x wx))
  case first =>
    go_wp2_with fail
    go_loopw [6, 8] (fun u i wx => ∃ (j f : Nat) (out : List Int) (s1 : List Bool), j + f = K ∧ i = .int .i64 j ∧ s1.length ≤ 4000 ∧ Hid (goR f j out s1 = outF) ∧ Hid (TAt w cb base s1 out j u wx)) (fun _ i _ => K - (intOf i).toNat)
    case atStart => exact ⟨0, K, [], s16, by omega, rfl, hs16, HG0, HT4⟩
    case round =>
      obtain ⟨j, f, out, s1, hjf, rfl, hs1, HG, HP⟩ := hrel
      obtain ⟨x0, f0⟩ := HP.out.cell
      have hsz : (sbits s1).size = s1.length := sbits_size s1
      cases f with
      | zero =>
        obtain rfl : j = K := by omega
        have e1 : out = outF := HG.out
        subst e1
        clear HG
        go_wp2_with fail
        go_meet
        exact ⟨_, _, HP⟩
      | succ f =>
        have hjK : j < K := by omega
        by_cases hs0 : s1 = []
        · have h1 := HG.out
          rw [goR, if_pos hs0] at h1
          subst h1
          have hz : s1.length = 0 := by rw [hs0]; rfl
          rw [hz] at hsz
          clear HG hs0
          go_wp2_with fail
          go_meet
          exact ⟨_, _, HP⟩
        · have hpos : 0 < s1.length := List.length_pos_iff.2 hs0
          have h1 := HG.out
          rw [goR, if_neg hs0] at h1
          clear HG hs0
          by_cases hj0 : j = 0
          · subst hj0
            rw [if_pos rfl] at h1
            have HC := take_t 64 HP.out (by decide) hs1 hlt
            have hl := tkR_len 64 s1 (by decide)
            obtain ⟨T, hT⟩ : ∃ T, tkR 64 s1 = T := ⟨_, rfl⟩
            obtain ⟨b2, s2⟩ := T
            rw [hT] at HC hl h1
            have hb2 : b2.length ≤ 64 := hl.2.1
            have hs2 : s2.length ≤ 4000 := Nat.le_trans hl.2.2 hs1
            have HCC := Lib.hid HC
            have HVV := valueof_any b2 hb2
            obtain ⟨V, hV⟩ : ∃ V, valF 0 b2 = V := ⟨_, rfl⟩
            rw [hV] at HVV
            have HG3 : Hid (goR f (0 + 1) (out ++ [wrap64 V]) s2 = outF) := Lib.hid (by
              have h : goR f 1 (out ++ [wI (valF 0 b2)]) s2 = outF := h1
              have e : wI V = wrap64 V := IntWalk.i64_left V
              rw [hV, e] at h
              exact h)
            clear HC hl h1 hT hV
            go_wp2_with fail
            refine HCC.out.mono ?_
            rintro e w5 ⟨rfl, hP5⟩
            have HP5 := Lib.hid hP5
            clear hP5
            go_wp2_with fail
            refine (HVV _).mono ?_
            rintro e w5' ⟨rfl, rfl⟩
            have hown := HP5.out.own
            have hsz2 := HP5.out.size
            clear HVV HCC x0 f0
            go_wp2_with (at_builtin; refine append1 [Value.int .i64 (wrap64 V)] elI64 rfl _ _ rfl hown (Below.refl base _) hsz2 rfl rfl rfl (by intro u hu; simp at hu; subst hu; rfl) ?c4 ?c5 ?_)
            case c4 => omega
            case c5 => omega
            intro v' w6 hown6 _ hg6
            have HP6 := Lib.hid (HP5.out.app hlt hown6 hg6)
            clear hown6 hg6 hown
            go_wp2_with fail
            go_roundw
            case rel => exact ⟨0 + 1, f, _, s2, by omega, by go_num, hs2, HG3, HP6⟩
            case measure => simp [intOf]; omega
          · rw [if_neg hj0] at h1
            have hjb : ((j : Int) == 0) = false := by rw [beq_eq_false_iff_ne]; omega
            have H1 := Lib.hid h1
            clear h1
            go_upto_block 2 with fail
            go_cut [9] (fun x wx => ∃ (k : Nat) (s2 : List Bool), k ≤ 4 ∧ x = .int .i64 k ∧ s2.length ≤ 4000 ∧ Hid (kR 4 s1 = (k, s2)) ∧ Hid (TAt w cb base s2 out j u6 wx))
            case first =>
              go_wp2_with fail
              go_loopw [9] (fun x wx => ∃ (k f2 : Nat) (s3 : List Bool), k + f2 = 4 ∧ x = .int .i64 k ∧ s3.length ≤ 4000 ∧ Hid (kR 4 s1 = ((kR f2 s3).1 + k, (kR f2 s3).2)) ∧ Hid (TAt w cb base s3 out j u6 wx)) (fun x _ => 4 - (intOf x).toNat)
              case atStart => exact ⟨0, 4, s1, rfl, rfl, hs1, rfl, HP⟩
              case round =>
                clear x0 f0 hsz
                obtain ⟨k, f2, s3, hkf, rfl, hs3, HK, HP3⟩ := hrel
                obtain ⟨x0, f0⟩ := HP3.out.cell
                cases f2 with
                | zero =>
                  obtain rfl : k = 4 := by omega
                  go_wp2_with fail
                  go_meet
                  exact ⟨4, s3, by omega, rfl, hs3, by show _ = _; rw [HK.out]; simp [kR], HP3⟩
                | succ f2 =>
                  have hk4 : k < 4 := by omega
                  have HC := take_t 1 HP3.out (by decide) hs3 hlt
                  have hl := tkR_len 1 s3 (by decide)
                  have h11 := tkR_one s3
                  obtain ⟨T, hT⟩ : ∃ T, tkR 1 s3 = T := ⟨_, rfl⟩
                  obtain ⟨b2, s4⟩ := T
                  rw [hT] at HC hl h11
                  have hs4 : s4.length ≤ 4000 := Nat.le_trans hl.2.2 hs3
                  have HCC := Lib.hid HC
                  clear HC hl
                  rcases h11 with h11 | h11
                  · have hb2 : b2 = [true] := h11
                    subst hb2
                    have HK2 : Hid (kR 4 s1 = ((kR f2 s4).1 + (k + 1), (kR f2 s4).2)) := Lib.hid (by rw [HK.out, kR, hT, if_pos rfl]; simp [Nat.add_assoc, Nat.add_comm, Nat.add_left_comm])
                    clear hT HK h11
                    go_wp2_with fail
                    refine HCC.out.mono ?_
                    rintro e w5 ⟨rfl, hP5⟩
                    have HP5 := Lib.hid hP5
                    have hcm := cmp1
                    clear x0 f0 HCC hP5
                    go_wp2_with fail
                    go_roundw
                    case rel => exact ⟨k + 1, f2, s4, by omega, by go_num, hs4, HK2, HP5⟩
                    case measure => simp [intOf]; omega
                  · have hb2 : b2 = [false] := h11
                    subst hb2
                    have HK2 : Hid (kR 4 s1 = (k, s4)) := Lib.hid (by rw [HK.out, kR, hT, if_neg (by simp)]; simp)
                    clear hT HK h11
                    go_wp2_with fail
                    refine HCC.out.mono ?_
                    rintro e w5 ⟨rfl, hP5⟩
                    have HP5 := Lib.hid hP5
                    have hcm := cmp0
                    clear x0 f0 HCC hP5
                    go_wp2_with fail
                    go_meet
                    exact ⟨k, s4, by omega, rfl, hs4, HK2, HP5⟩
            obtain ⟨k, s2, hk4, rfl, hs2, HK, HP2⟩ := hcut
            clear x0 f0 hsz
            obtain ⟨x0, f0⟩ := HP2.out.cell
            go_upto_if 47 with (fail)
            go_cut [10] (fun x wx => ∃ (c : Int) (s3 : List Bool), x = .int .i64 c ∧ s3.length ≤ 4000 ∧ Hid (chR s1 = (c, s3)) ∧ Hid (TAt w cb base s3 out j u6 wx))
            case first =>
              have hk5 : k = 0 ∨ k = 1 ∨ k = 2 ∨ k = 3 ∨ k = 4 := by omega
              rcases hk5 with rfl | rfl | rfl | rfl | rfl
              · have HC0 : Hid (chR s1 = (0, s2)) := Lib.hid (by unfold chR; rw [HK.out, if_pos rfl])
                go_wp2_with fail
                go_meet
                exact ⟨0, s2, rfl, hs2, HC0, HP2⟩
              · have HC0 : Hid (chR s1 = (sgR (tkR 7 s2).1, (tkR 7 s2).2)) := Lib.hid (by unfold chR; rw [HK.out, if_neg (by simp)]; rfl)
                have HPA := HP2.out.below hlt ((Below.refl _ wc).alloc (Nat.le_refl _) (Obj.cells #[.int .i64 0, .int .i64 7, .int .i64 9, .int .i64 12, .int .i64 64] 3))
                have HC := take_t 7 HPA (by decide) hs2 hlt
                have hl := tkR_len 7 s2 (by decide)
                obtain ⟨T, hT⟩ : ∃ T, tkR 7 s2 = T := ⟨_, rfl⟩
                obtain ⟨b2, s4⟩ := T
                rw [hT] at HC hl HC0
                have hb0 : 0 < b2.length := hl.1
                have hb2 : b2.length ≤ 64 := Nat.le_trans hl.2.1 (by decide)
                have hs4 : s4.length ≤ 4000 := Nat.le_trans hl.2.2 hs2
                have HSG := signed_any b2 hb0 hb2
                have HCC := Lib.hid HC
                clear HC hl hT HK HPA
                go_wp2_with fail
                refine HCC.out.mono ?_
                rintro e w5 ⟨rfl, hP5⟩
                have HP5 := Lib.hid hP5
                clear hP5 HCC x0 f0
                go_wp2_with fail
                refine (HSG _).mono ?_
                rintro e w6 ⟨rfl, rfl⟩
                go_wp2_with fail
                go_meet
                exact ⟨_, s4, rfl, hs4, HC0, HP5⟩
              · have HC0 : Hid (chR s1 = (sgR (tkR 9 s2).1, (tkR 9 s2).2)) := Lib.hid (by unfold chR; rw [HK.out, if_neg (by simp)]; rfl)
                have HPA := HP2.out.below hlt ((Below.refl _ wc).alloc (Nat.le_refl _) (Obj.cells #[.int .i64 0, .int .i64 7, .int .i64 9, .int .i64 12, .int .i64 64] 3))
                have HC := take_t 9 HPA (by decide) hs2 hlt
                have hl := tkR_len 9 s2 (by decide)
                obtain ⟨T, hT⟩ : ∃ T, tkR 9 s2 = T := ⟨_, rfl⟩
                obtain ⟨b2, s4⟩ := T
                rw [hT] at HC hl HC0
                have hb0 : 0 < b2.length := hl.1
                have hb2 : b2.length ≤ 64 := Nat.le_trans hl.2.1 (by decide)
                have hs4 : s4.length ≤ 4000 := Nat.le_trans hl.2.2 hs2
                have HSG := signed_any b2 hb0 hb2
                have HCC := Lib.hid HC
                clear HC hl hT HK HPA
                go_wp2_with fail
                refine HCC.out.mono ?_
                rintro e w5 ⟨rfl, hP5⟩
                have HP5 := Lib.hid hP5
                clear hP5 HCC x0 f0
                go_wp2_with fail
                refine (HSG _).mono ?_
                rintro e w6 ⟨rfl, rfl⟩
                go_wp2_with fail
                go_meet
                exact ⟨_, s4, rfl, hs4, HC0, HP5⟩
              · have HC0 : Hid (chR s1 = (sgR (tkR 12 s2).1, (tkR 12 s2).2)) := Lib.hid (by unfold chR; rw [HK.out, if_neg (by simp)]; rfl)
                have HPA := HP2.out.below hlt ((Below.refl _ wc).alloc (Nat.le_refl _) (Obj.cells #[.int .i64 0, .int .i64 7, .int .i64 9, .int .i64 12, .int .i64 64] 3))
                have HC := take_t 12 HPA (by decide) hs2 hlt
                have hl := tkR_len 12 s2 (by decide)
                obtain ⟨T, hT⟩ : ∃ T, tkR 12 s2 = T := ⟨_, rfl⟩
                obtain ⟨b2, s4⟩ := T
                rw [hT] at HC hl HC0
                have hb0 : 0 < b2.length := hl.1
                have hb2 : b2.length ≤ 64 := Nat.le_trans hl.2.1 (by decide)
                have hs4 : s4.length ≤ 4000 := Nat.le_trans hl.2.2 hs2
                have HSG := signed_any b2 hb0 hb2
                have HCC := Lib.hid HC
                clear HC hl hT HK HPA
                go_wp2_with fail
                refine HCC.out.mono ?_
                rintro e w5 ⟨rfl, hP5⟩
                have HP5 := Lib.hid hP5
                clear hP5 HCC x0 f0
                go_wp2_with fail
                refine (HSG _).mono ?_
                rintro e w6 ⟨rfl, rfl⟩
                go_wp2_with fail
                go_meet
                exact ⟨_, s4, rfl, hs4, HC0, HP5⟩
              · have HC0 : Hid (chR s1 = (sgR (tkR 64 s2).1, (tkR 64 s2).2)) := Lib.hid (by unfold chR; rw [HK.out, if_neg (by simp)]; rfl)
                have HPA := HP2.out.below hlt ((Below.refl _ wc).alloc (Nat.le_refl _) (Obj.cells #[.int .i64 0, .int .i64 7, .int .i64 9, .int .i64 12, .int .i64 64] 3))
                have HC := take_t 64 HPA (by decide) hs2 hlt
                have hl := tkR_len 64 s2 (by decide)
                obtain ⟨T, hT⟩ : ∃ T, tkR 64 s2 = T := ⟨_, rfl⟩
                obtain ⟨b2, s4⟩ := T
                rw [hT] at HC hl HC0
                have hb0 : 0 < b2.length := hl.1
                have hb2 : b2.length ≤ 64 := Nat.le_trans hl.2.1 (by decide)
                have hs4 : s4.length ≤ 4000 := Nat.le_trans hl.2.2 hs2
                have HSG := signed_any b2 hb0 hb2
                have HCC := Lib.hid HC
                clear HC hl hT HK HPA
                go_wp2_with fail
                refine HCC.out.mono ?_
                rintro e w5 ⟨rfl, hP5⟩
                have HP5 := Lib.hid hP5
                clear hP5 HCC x0 f0
                go_wp2_with fail
                refine (HSG _).mono ?_
                rintro e w6 ⟨rfl, rfl⟩
                go_wp2_with fail
                go_meet
                exact ⟨_, s4, rfl, hs4, HC0, HP5⟩
            obtain ⟨c, s3, rfl, hs3, HCR, HP3⟩ := hcut
            clear x0 f0 HK HP2
            obtain ⟨uo, uc, rfl, _, _, _⟩ := own_shape HP3.out.own
            have hj1 : 1 ≤ j := by omega
            obtain ⟨I1, hI1⟩ : ∃ I : Nat, (j : Int) - 1 = I := ⟨j - 1, by omega⟩
            have hI1n : I1 = j - 1 := by omega
            go_upto_if 56 with (fail)
            go_cut [11] (fun x wx => x = .int .i64 (aheadR out j) ∧ Hid (TAt w cb base s3 out j (.slice uo j uc) wx))
            case first =>
              by_cases h1j : 1 < j
              · obtain ⟨b1, off1, rfl, hc1⟩ := (own_sl HP3.out.own).int (i := I1) (by omega)
                obtain ⟨I2, hI2⟩ : ∃ I : Nat, (j : Int) - 2 = I := ⟨j - 2, by omega⟩
                have hI2n : I2 = j - 2 := by omega
                obtain ⟨b2, off2, he2, hc2⟩ := (own_sl HP3.out.own).int (i := I2) (by omega)
                obtain ⟨rfl, rfl⟩ : b1 = b2 ∧ off1 = off2 := by simpa using he2
                have HAH : Hid (aheadR out j = wI (out.getD I1 0 - out.getD I2 0)) := Lib.hid (by unfold aheadR; rw [if_pos h1j, hI1n, hI2n])
                obtain ⟨A, hA⟩ : ∃ A, out.getD I1 0 = A := ⟨_, rfl⟩
                obtain ⟨B, hB⟩ : ∃ B, out.getD I2 0 = B := ⟨_, rfl⟩
                rw [hA] at hc1 HAH
                rw [hB] at hc2 HAH
                have hI1j : I1 < j := by omega
                have hI2j : I2 < j := by omega
                clear he2 hA hB hI1n hI2n
                go_wp2_with fail
                go_quiet (fail)
                go_wp2
                go_meet
                refine ⟨?_, Lib.hid (HP3.out.below hlt (below_drewN (Below.refl _ wc) _))⟩
                rw [HAH.out]
                unfold wI
                first | rfl | rw [IntWalk.i64_left]
              · have HAH : Hid (aheadR out j = 0) := Lib.hid (by unfold aheadR; rw [if_neg h1j])
                go_wp2_with fail
                go_meet
                exact ⟨by rw [HAH.out], HP3⟩
            obtain ⟨rfl, HP4⟩ := hcut
            clear HP3
            obtain ⟨b1, off1, rfl, hc1⟩ := (own_sl HP4.out.own).int (i := I1) (by omega)
            have hI1j : I1 < j := by omega
            obtain ⟨ah, hah⟩ : ∃ a, aheadR out j = a := ⟨_, rfl⟩
            obtain ⟨A, hA⟩ : ∃ A, out.getD I1 0 = A := ⟨_, rfl⟩
            have hA2 : out.getD (j - 1) 0 = A := by rw [← hI1n]; exact hA
            obtain ⟨z1, hz1⟩ : ∃ z, wrap64 (A + ah) = z := ⟨_, rfl⟩
            obtain ⟨z2, hz2⟩ : ∃ z, wrap64 (z1 + c) = z := ⟨_, rfl⟩
            have HG3 : Hid (goR f (j + 1) (out ++ [z2]) s3 = outF) := Lib.hid (by
              have h := H1.out
              rw [HCR.out, hah, hA2] at h
              have e1 : wI (A + ah) = z1 := by rw [← hz1]; exact IntWalk.i64_left _
              have e2 : wI (z1 + c) = z2 := by rw [← hz2]; exact IntWalk.i64_left _
              have h' : goR f (j + 1) (out ++ [wI (wI (A + ah) + c)]) s3 = outF := h
              rw [e1, e2] at h'
              exact h')
            rw [hA] at hc1
            rw [hah]
            have hown := HP4.out.own
            have hsz2 := HP4.out.size
            clear hah hA hA2 H1 HCR hI1n
            go_wp2_with (at_builtin; refine append1 [Value.int .i64 z2] elI64 rfl _ _ rfl hown (Below.refl base _) hsz2 rfl rfl rfl (by intro u hu; simp at hu; subst hu; rfl) ?c4 ?c5 ?_)
            case c4 => omega
            case c5 => omega
            intro v' w6 hown6 _ hg6
            have HP6 := Lib.hid (HP4.out.app hlt hown6 hg6)
            clear hown6 hg6 hown
            go_wp2_with fail
            go_roundw
            case rel => exact ⟨j + 1, f, _, s3, by omega, by go_num, hs3, HG3, HP6⟩
            case measure => simp [intOf]; omega
  case rest =>
    obtain ⟨m, s2, HP⟩ := hcut
    have HOUT := Lib.hid (own_sl HP.out.own)
    obtain ⟨uo, uc, rfl, _, _, _⟩ := HOUT.out.shape
    have hlen := HP.out.len
    have HLO := Lib.hid hlen
    have hBel := HP.out.bel
    have hszc : cb ≤ wc.heap.size := by have := HP.out.size; omega
    have hall : AllI outF := by have := unpR_all s; rwa [HO.out] at this
    have HWO : Hid (∀ z ∈ outF, (Lit.int .i64 z).wf = true) := Lib.hid fun z hz => by
      have := hall z hz
      unfold I64 at this
      exact Go.WalkArith.wf_i64 ⟨this.1, by omega⟩
    clear hall HP hlen
    by_cases hbig : 1000 < m
    · have HNO : Hid (decide (okR s) = false) := Lib.hid (decide_eq_false fun h => by
        have h2 := h.1
        rw [HO.out] at h2
        have := HLO.out
        omega)
      go_wp2_with fail
      go_ret2
      show TPost _ _ _ _
      refine ⟨_, m, by rw [HNO.out]; rfl, ?_, ?_, by rw [HCB.out]; exact hBel⟩
      · rw [HO.out]; exact HOUT.out
      · rw [HO.out]; exact HLO.out
    · have hm1 : m ≤ 1000 := by omega
      obtain ⟨ts, hts⟩ : ∃ ts, tsTo outF m = ts := ⟨_, rfl⟩
      have HTS := timesigns_any _ m outF wc HOUT.out HLO.out HWO.out hm1
      rw [hts] at HTS
      have HDE : Hid (decide (okR s) = decide (ts = s)) := Lib.hid (by
        have : okR s ↔ ts = s := by
          unfold okR
          rw [HO.out, HLO.out, hts]
          exact ⟨fun h => h.2, fun h => ⟨hm1, h⟩⟩
        simp [this])
      have HTT := Lib.hid HTS
      have hcmp := sbits_cmp ts s
      obtain ⟨D, hD⟩ : ∃ D, decide (ts = s) = D := ⟨_, rfl⟩
      rw [hD] at hcmp HDE
      clear HTS hts hD hbig
      go_wp2_with fail
      refine HTT.out.mono ?_
      rintro e w7 ⟨rfl, hb7⟩
      go_wp2_with fail
      go_ret2
      show TPost _ _ _ _
      refine ⟨_, m, by rw [HDE.out]; rfl, ?_, ?_, by rw [HCB.out]; exact hBel.trans (hb7.mono hszc)⟩
      · rw [HO.out]; exact HOUT.out.below hb7
      · rw [HO.out]; exact HLO.out
end Go.Proofs.YtbifhmbfmoeofaaDoor.Delta
