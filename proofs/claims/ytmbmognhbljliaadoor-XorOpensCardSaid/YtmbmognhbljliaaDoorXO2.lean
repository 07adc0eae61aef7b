/-
  The walk of xor.Unpack; slices.Equal at []uint64.
-/
import Derived.Test.YtmbmognhbljliaaDoorXO1
import Derived.Test.YtmbmognhbljliaaDoorXorPacks
import Derived.Deep.CutBlock
namespace Go.Proofs.YtmbmognhbljliaaDoor.Xor
open Go.RowKit Go.Gh Go.Proofs.YtmbmognhbljliaaDoor.Bits Go.Proofs.YtmbmognhbljliaaDoor.Delta
set_option linter.unusedVariables false
theorem infoU64 : (Tryd.prog.info? 50).map (fun i => (i.zero, i.size, i.bytes)) = some (some (.int .u64 0), 1, 8) := by kernel_rfl
theorem elU64 : Elem Tryd.prog 33 50 1 8 := elem_of Tryd.underlying33 infoU64 rfl (by decide)
set_option maxRecDepth 100000 in
theorem eqx_any (v v' : Value) (n n' : Nat) (l l' : List Int) (w : World) (hs : Sl w 1 v n (l.map (Value.int .u64))) (ht : Sl w 1 v' n' (l'.map (Value.int .u64))) (hl : l.length = n) (hl' : l'.length = n') :
    Calls Tryd.prog 20 #[v, v'] w fun e w' => e = .returned (.bool (decide (l = l'))) ∧ Below w.heap.size w w' := by
  obtain ⟨ao, c, rfl, hnc, hc, _⟩ := hs.shape
  obtain ⟨bo, d, rfl, hod, hd, _⟩ := ht.shape
  have HL := Lib.hid hl
  have HL' := Lib.hid hl'
  by_cases hne : n = n'
  case neg =>
    have HF : Hid (decide (l = l') = false) := Lib.hid (decide_eq_false fun h => hne (by rw [← hl, ← hl', h]))
    have t1 : ((n : Int) != (n' : Int)) = true := by rw [bne_iff_ne]; omega
    clear hl hl' hne
    go_enter Tryd.func20, Tryd.ntmps20
    go_wp2_with fail
    go_ret
    exact ⟨ret_bool HF.out.symm, Below.refl _ _⟩
  subst hne
  clear hl hl'
  have t1 : ((n : Int) != (n : Int)) = false := by simp
  go_enter Tryd.func20, Tryd.ntmps20
  go_wp2_with fail
  go_loopw [5, 13] (fun _ i wr => ∃ k : Nat, k ≤ n ∧ i = .int .i64 k ∧ Below w.heap.size w wr ∧ Hid (l.take k = l'.take k)) (fun _ i _ => n - (intOf i).toNat)
  case atStart => exact ⟨0, by omega, rfl, Below.refl _ _, rfl⟩
  case round =>
    obtain ⟨k, hk, rfl, hbr, HE⟩ := hrel
    by_cases hlt : k < n
    · obtain ⟨b, off, rfl, hc1⟩ := (hs.below hbr).int (i := k) hlt
      obtain ⟨b', off', rfl, hc2⟩ := (ht.below hbr).int (i := k) hlt
      by_cases heq : l.getD k 0 = l'.getD k 0
      · have HN : Hid (l.take (k + 1) = l'.take (k + 1)) := Lib.hid (take_eq_step HE.out (by have := HL.out; omega) (by have := HL'.out; omega) heq)
        rw [heq] at hc1
        clear heq
        generalize l'.getD k 0 = z at *
        have hz : (z != z) = false := by simp
        go_wp2_with fail
        go_quiet (fail)
        go_wp2
        go_roundw
        case rel => exact ⟨k + 1, by omega, by go_num, below_drewN hbr _, HN⟩
        case measure => simp [intOf]; omega
      · have HF : Hid (decide (l = l') = false) := Lib.hid (decide_eq_false (ne_at heq))
        generalize l'.getD k 0 = z at *
        generalize l.getD k 0 = y at *
        have hz : (y != z) = true := by rw [bne_iff_ne]; exact heq
        clear heq
        go_wp2_with fail
        go_quiet (fail)
        go_wp2
        go_ret
        exact ⟨ret_bool HF.out.symm, below_drewN hbr _⟩
    · obtain rfl : k = n := by omega
      have HF : Hid (decide (l = l') = true) := Lib.hid (decide_eq_true (by
        have h := HE.out
        rwa [List.take_of_length_le (by rw [HL.out]; exact Nat.le_refl _), List.take_of_length_le (by rw [HL'.out]; exact Nat.le_refl _)] at h))
      go_wp2_with fail
      go_ret
      exact ⟨ret_bool HF.out.symm, hbr⟩
/-- How far the reading has come: the reader, the window, the row of what was read. -/
structure UxAt (w3 : World) (rb wb base : Nat) (bs : Value) (len : Nat) (l : List Int) (N : Nat) (s : Rd) (out : List Int) (m : Nat) (u : Value) (wx : World) : Prop where
  wd : WdAt w3 rb wb bs len l N s wx
  own : wx.ownsRow base 50 1 u m (out.map (Value.int .u64))
  len : out.length = m
  size : base ≤ wx.heap.size
theorem UxAt.take {w3 wx wy : World} {rb wb base : Nat} {bs : Value} {len : Nat} {l : List Int} {N : Nat} {s s2 : Rd} {out : List Int} {m : Nat} {u : Value} (h : UxAt w3 rb wb base bs len l N s out m u wx) (hr : WdAt w3 rb wb bs len l N s2 wy) (hg : Two wx wy rb wb) (hb : rb < base) (hb2 : wb < base) : UxAt w3 rb wb base bs len l N s2 out m u wy :=
  ⟨hr, hg.own h.own hb hb2, h.len, Nat.le_trans h.size hg.1⟩
theorem UxAt.app {w3 wx wy : World} {rb wb base : Nat} {bs : Value} {len : Nat} {l : List Int} {N : Nat} {s : Rd} {out : List Int} {m : Nat} {u v' : Value} {z : Int} (h : UxAt w3 rb wb base bs len l N s out m u wx) (hb : rb < base) (hb2 : wb < base) (hbase : w3.heap.size ≤ base) (hown : wy.ownsRow base 50 1 v' (m + 1) (out.map (Value.int .u64) ++ [Value.int .u64 z])) (hg : wx.grownBy wy u.ownBlock) :
    UxAt w3 rb wb base bs len l N s (out ++ [z]) (m + 1) v' wy := by
  obtain ⟨⟨⟨a, ha, hi, hr⟩, hgr⟩, hw⟩ := h.wd
  refine ⟨⟨⟨⟨a, ha, grown_block2 hg (fun he => by have := (h.own.lt _ he).1; omega) hi, hr⟩, grown_past hgr hg (fun k hk => by have := (h.own.lt _ hk).1; omega)⟩, grown_block2 hg (fun he => by have := (h.own.lt _ he).1; omega) hw⟩, ?_, by simp [h.len], Nat.le_trans h.size hg.size⟩
  rw [List.map_append]
  exact hown
theorem wf_u64_of {z : Int} (h0 : 0 ≤ z) (h1 : z < 18446744073709551616) : (Lit.int .u64 z).wf = true := by
  simp [Lit.wf, IntKind.min, IntKind.max, IntKind.signed, IntKind.bits]
  omega
def UPost (l : List Int) (N : Int) (w : World) (e : Ending) (w' : World) : Prop :=
  Below w.heap.size w w' ∧ ((okB l N ∧ okXI (unpack l N.toNat) ∧ ∃ v n, e = .returned (.tuple #[v, .int .i64 0]) ∧ Sl w' 1 v n ((unxI (unpack l N.toNat)).1.map (Value.int .u64)) ∧ (unxI (unpack l N.toNat)).1.length = n) ∨ (¬ (okB l N ∧ okXI (unpack l N.toNat)) ∧ e = .returned (.tuple #[.slice none 0 0, .int .i64 4])))
set_option maxHeartbeats 8000000 in
set_option maxRecDepth 100000 in
theorem unpack_any (v : Value) (l : List Int) (N : Int) (w : World) (hv : BitsV w v l N) (hN : N ≤ 2000) (hT : TabX w) (hT2 : 2 ≤ w.heap.size) :
    Calls Tryd.prog 18 #[v] w (UPost l N w) := by
  have hv0 := hv
  obtain ⟨b, len, rfl, hs, hby, hwf, hlen, hN0, hN1⟩ := hv
  obtain ⟨ao, cp, rfl, hnc, hcp, hll⟩ := hs.shape
  have hll : l.length = len := by simpa using hll
  have HS0 := Lib.hid hs
  have HWF := Lib.hid hwf
  have HBY := Lib.hid hby
  have HLL := Lib.hid hll
  have HT := Lib.hid hT
  have hw0 : 0 < w.heap.size := by omega
  clear hs hwf hby hll hT
  go_enter Tryd.func18, Tryd.ntmps18
  go_upto_region 1 with (fail)
  refine wp_abs (fun wA => wA.heap[w.heap.size]? = some (.cells #[.slice ao len cp, .int .i64 N] 25 (0, 0)) ∧ Below w.heap.size w wA ∧ w.heap.size < wA.heap.size) ⟨heap_alloc_new w _, (Below.refl _ _).alloc (Nat.le_refl _) _, by simp⟩ ?_
  rintro wA ⟨hA0, hAb, hAs⟩
  obtain ⟨⟨x0, x1⟩, -⟩ := box2 hA0
  by_cases hok : okB l N
  case neg =>
    have HF : Hid (faultB l N = 4) := Lib.hid (if_neg hok)
    have HNO : Hid (¬ (okB l N ∧ okXI (unpack l N.toNat))) := Lib.hid fun h => hok h.1
    clear hok
    go_wp2_with fail
    refine (check_any _ l N _ (bv_below hv0 hAb)).mono ?_
    rw [HF.out]
    rintro e w1 ⟨rfl, hb1⟩
    go_wp2_with fail
    go_ret2
    exact ⟨hAb.trans (hb1.mono hAb.size), Or.inr ⟨HNO.out, rfl⟩⟩
  have HF : Hid (faultB l N = 0) := Lib.hid (if_pos hok)
  have hN8 : 0 ≤ N ∧ N ≤ 8 * l.length := ⟨hok.1, hok.2.1⟩
  rw [HLL.out] at hN8
  have HOK := Lib.hid hok
  clear hok
  obtain ⟨M, rfl⟩ : ∃ M : Nat, N = M := ⟨N.toNat, by omega⟩
  go_wp2_with fail
  refine (check_any _ l M _ (bv_below hv0 hAb)).mono ?_
  rw [HF.out]
  rintro e w1 ⟨rfl, hb1⟩
  have hB1 := hAb.trans (hb1.mono hAb.size)
  have hA1 := (hb1.block _ hAs).trans hA0
  have hs1 : w.heap.size < w1.heap.size := Nat.lt_of_lt_of_le hAs hb1.size
  clear x0 x1 hA0 hb1 hAb hAs
  obtain ⟨⟨x0, x1⟩, -⟩ := box2 hA1
  go_upto_region 5 with (fail)
  refine wp_abs (fun wx => wx.heap[w.heap.size]? = some (.cells #[.slice ao len cp, .int .i64 M] 25 (0, 0)) ∧ RInv wx w1.heap.size (.slice ao len cp) M 0 false ∧ Below w.heap.size w wx ∧ w1.heap.size < wx.heap.size)
    ⟨(Below.heap_alloc _ _ _ (by omega)).trans hA1, heap_alloc_new w1 _, hB1.alloc hB1.size _, by simp⟩ ?_
  have hne := sl_old (HS0.out.below hB1) (by decide)
  obtain ⟨rb, hrb⟩ : ∃ rb, w1.heap.size = rb := ⟨_, rfl⟩
  rw [hrb] at hs1 hne ⊢
  clear hA1 x0 x1 hrb hB1
  rintro w3 ⟨q3, hR3, hB3, hs3⟩
  have HS3 := Lib.hid (HS0.out.below hB3)
  have HNE := Lib.hid hne
  have HRD : Hid (RAt w3 rb (.slice ao len cp) len l M (unpack l M) false w3) := Lib.hid ⟨⟨0, Nat.zero_le _, hR3, List.drop_zero⟩, World.grownBy.refl _ _⟩
  have HB3 := Lib.hid hB3
  have Q3 := Lib.hid q3
  obtain ⟨wb, hwb⟩ : ∃ wb, w3.heap.size = wb := ⟨_, rfl⟩
  have hrw : rb ≠ wb := by omega
  have HWB := Lib.hid hwb
  clear hR3 hB3 q3
  go_upto_region 8 with (fail)
  refine wp_abs (fun wx => RAt w3 rb (.slice ao len cp) len l M (unpack l M) false wx ∧ wx.heap[wb]? = some (.cells #[.bool false, .int .i64 0, .int .i64 0] 61 (0, 0)) ∧ wb < wx.heap.size) ⟨rat_below HRD.out ((Below.refl _ w3).alloc (Nat.le_refl _) _), by rw [← hwb]; exact heap_alloc_new w3 _, by rw [← hwb]; simp⟩ ?_
  rintro w4 ⟨hrd4, hwin4, hs4⟩
  have HRD4 := Lib.hid hrd4
  have HWN4 := Lib.hid hwin4
  clear hrd4 hwin4 hwb HRD
  have HC16 := take_at 16 HS3.out HWF.out hlen (by omega) (by decide) HNE.out HRD4.out
  obtain ⟨T, hT16⟩ : ∃ T, tk 16 (unpack l M) false = T := ⟨_, rfl⟩
  have hVb := tk_bd 16 (unpack l M) false
  rw [hT16] at HC16 hVb
  obtain ⟨V, r0, sh0⟩ := T
  obtain ⟨K, rfl⟩ : ∃ K : Nat, V = K := ⟨V.toNat, (Int.toNat_of_nonneg hVb.1).symm⟩
  have hK : K < 65536 := by
    have h := hVb.2
    have e : (2 : Int) ^ 16 = 65536 := by decide
    rw [e] at h
    have : ((K : Int)) < 65536 := h
    omega
  obtain ⟨R, hR⟩ : ∃ R, unxI (unpack l M) = R := ⟨_, rfl⟩
  obtain ⟨outF, shF⟩ := R
  have HU := Lib.hid hR
  have HGO : Hid (gxI K true 0 [] { r := r0, sh := sh0, is := false, ld := 0, tl := 0 } = (outF, shF)) := Lib.hid (by rw [← hR]; unfold unxI; rw [hT16]; rfl)
  have HCC := Lib.hid HC16
  clear HC16 hVb hR hT16
  go_wp2_with fail
  refine HCC.out.mono ?_
  rintro e w5 ⟨rfl, hr5, hg5⟩
  obtain ⟨base, hbase⟩ : ∃ base, w4.heap.size = base := ⟨_, rfl⟩
  have hrbb : rb < base := by have := HWB.out; omega
  have hwbb : wb < base := by omega
  have h3b : w3.heap.size ≤ base := by have := HWB.out; omega
  have hww : w3.heap.size ≤ wb := by have := HWB.out; omega
  have hUP : UxAt w3 rb wb base (.slice ao len cp) len l M { r := r0, sh := sh0, is := false, ld := 0, tl := 0 } [] 0 (.slice none 0 0) w5 :=
    ⟨⟨hr5, (hg5.block wb hs4 (by simp; omega)).trans HWN4.out⟩, World.ownsRow_nil _ _ _ _, rfl, by rw [← hbase]; exact hg5.size⟩
  have HUP := Lib.hid hUP
  have HWB0 : Hid (WB { r := r0, sh := sh0, is := false, ld := 0, tl := 0 }) := Lib.hid (by unfold WB; simp)
  clear hr5 hg5 hUP hbase HCC HRD4 HWN4 hs4
  go_upto_block 0 with fail
  go_cut [6] (fun x wx => ∃ m s, m ≤ K ∧ Hid (s.sh = shF) ∧ Hid (UxAt w3 rb wb base (.slice ao len cp) len l M s outF m x wx))
  case first =>
    go_wp2_with fail
    go_loopw [6, 7, 10] (fun u a i wx => ∃ (j f : Nat) (last : Int) (out : List Int) (s : Rd), j + f = K ∧ i = .int .i64 j ∧ a = .int .u64 last ∧ Hid (U64 last) ∧ Hid (gxI f (decide (j = 0)) last out s = (outF, shF)) ∧ Hid (WB s) ∧ Hid (UxAt w3 rb wb base (.slice ao len cp) len l M s out j u wx)) (fun _ _ i _ => K - (intOf i).toNat)
    case atStart => exact ⟨0, K, 0, [], _, by omega, rfl, rfl, by unfold U64; exact ⟨by decide, by decide⟩, HGO, HWB0, HUP⟩
    case round =>
      obtain ⟨j, f, last, out, s, hjf, rfl, rfl, HLU, HG, HB, HP⟩ := hrel
      have hc3 := rat_cell HP.out.wd.rd
      cases f with
      | zero =>
        obtain rfl : j = K := by omega
        have h1 := HG.out
        rw [gxI] at h1
        have e1 : out = outF := congrArg Prod.fst h1
        have e2 : s.sh = shF := congrArg Prod.snd h1
        subst e1
        have HE2 := Lib.hid e2
        clear h1 HG e2
        go_wp2_with fail
        go_meet
        exact ⟨_, s, by omega, HE2, HP⟩
      | succ f =>
        have hjK : j < K := by omega
        by_cases hsh : s.sh = true
        · have h1 := HG.out
          rw [gxI, if_pos hsh] at h1
          have e1 : out = outF := congrArg Prod.fst h1
          have e2 : s.sh = shF := congrArg Prod.snd h1
          rw [hsh] at hc3
          subst e1
          have HE2 := Lib.hid e2
          clear h1 HG e2 hsh
          go_wp2_with fail
          go_meet
          exact ⟨_, s, by omega, HE2, HP⟩
        · have hshf : s.sh = false := by simpa using hsh
          have hj8 : (j + 1) * 8 ≤ 140737488355328 := by omega
          have h1 := HG.out
          rw [gxI, if_neg hsh] at h1
          rw [hshf] at hc3
          clear hsh hshf
          by_cases hj0 : j = 0
          · subst hj0
            rw [if_pos (by simp)] at h1
            have HC := take_at 64 HS3.out HWF.out hlen (by omega) (by decide) HNE.out HP.out.wd.rd
            have hu := tk_u s.r s.sh
            obtain ⟨T, hT⟩ : ∃ T, tk 64 s.r s.sh = T := ⟨_, rfl⟩
            obtain ⟨V, r2, sh2⟩ := T
            rw [hT] at HC h1 hu
            have HCC := Lib.hid HC
            have HVU : Hid (U64 V) := Lib.hid hu
            have HG3 : Hid (gxI f (decide (0 + 1 = 0)) V (out ++ [V]) { s with r := r2, sh := sh2 } = (outF, shF)) := Lib.hid h1
            clear HC h1 hT HG hu
            go_wp2_with fail
            refine HCC.out.mono ?_
            rintro e w6 ⟨rfl, hr6, hg6⟩
            have HP5 := Lib.hid (HP.out.take (HP.out.wd.take hrw hr6 hg6) (Two.one hg6) hrbb hwbb)
            clear hr6 hg6 HCC
            have hown := HP5.out.own
            have hsz := HP5.out.size
            go_wp2_with (at_builtin; refine append1 [Value.int .u64 V] elU64 rfl _ _ rfl hown (Below.refl base _) hsz rfl rfl rfl (by intro u hu; simp at hu; subst hu; rfl) ?c4 ?c5 ?_)
            case c4 => omega
            case c5 => omega
            intro v' w7 hown7 _ hg7
            have HP6 := Lib.hid (HP5.out.app hrbb hwbb h3b hown7 hg7)
            clear hown7 hg7 hown
            go_wp2_with fail
            go_roundw
            case rel => exact ⟨0 + 1, f, _, _, _, by omega, by go_num, rfl, HVU, HG3, HB, HP6⟩
            case measure => simp [intOf]; omega
          · rw [if_neg (by simp [hj0])] at h1
            have hjb : ((j : Int) == 0) = false := by rw [beq_eq_false_iff_ne]; omega
            have HC := turn_any HS3.out HWF.out hlen (by omega) HNE.out HP.out.wd HB.out hrw hww
            have hu := tnI_u s
            obtain ⟨T, hT⟩ : ∃ T, tnI s = T := ⟨_, rfl⟩
            obtain ⟨V, s2⟩ := T
            rw [hT] at HC h1 hu
            have HCC := Lib.hid HC
            have hxu := xor_u HLU.out hu
            obtain ⟨la2, hla2⟩ : ∃ x, xorI last V = x := ⟨_, rfl⟩
            rw [hla2] at hxu
            have HVU : Hid (U64 la2) := Lib.hid hxu
            have HXL := Lib.hid (show bits .xor .u64 last V = la2 from hla2)
            have HG3 : Hid (gxI f (decide (j + 1 = 0)) la2 (out ++ [la2]) s2 = (outF, shF)) := Lib.hid (by
              have h : gxI f false (xorI last V) (out ++ [xorI last V]) s2 = (outF, shF) := h1
              rw [hla2] at h
              rw [show decide (j + 1 = 0) = false from by simp]
              exact h)
            clear HC h1 hT HG hj0 hu hxu hla2
            go_wp2_with fail
            refine HCC.out.mono ?_
            rintro e w6 ⟨rfl, hwd6, hwb6, htw6⟩
            have HP5 := Lib.hid (HP.out.take hwd6 htw6 hrbb hwbb)
            have HWB6 := Lib.hid hwb6
            clear hwd6 hwb6 htw6 HCC
            have hown := HP5.out.own
            have hsz := HP5.out.size
            go_wp2_with (at_builtin; rw [HXL.out]; refine append1 [Value.int .u64 la2] elU64 rfl _ _ rfl hown (Below.refl base _) hsz rfl rfl rfl (by intro u hu; simp at hu; subst hu; rfl) ?c4 ?c5 ?_)
            case c4 => omega
            case c5 => omega
            intro v' w7 hown7 _ hg7
            have HP6 := Lib.hid (HP5.out.app hrbb hwbb h3b hown7 hg7)
            clear hown7 hg7 hown
            go_wp2_with fail
            go_roundw
            case rel => exact ⟨j + 1, f, _, _, s2, by omega, by go_num, rfl, HVU, HG3, HWB6, HP6⟩
            case measure => simp [intOf]; omega
  case rest =>
    obtain ⟨m, s, hmK, HSH, HP⟩ := hcut
    have hgr := HP.out.wd.rd.gr
    have hBc : Below w.heap.size w wc := Below.grown HB3.out hgr (by omega) (fun k hk => by simp at hk; omega)
    have QC := Lib.hid ((hgr.block w.heap.size (by omega) (by simp; omega)).trans Q3.out)
    have HTc := Lib.hid (HT.out.below (hBc.mono hT2))
    have hTc2 : 2 ≤ wc.heap.size := Nat.le_trans hT2 hBc.size
    have HSc := Lib.hid (Sl.grown HS3.out hgr HNE.out)
    have hc3 := rat_cell HP.out.wd.rd
    rw [HSH.out] at hc3
    have HOUT := Lib.hid (own_sl HP.out.own)
    have HLO := Lib.hid HP.out.len
    have hrbc : rb < wc.heap.size := by
      obtain ⟨⟨a, _, hi, _⟩, _⟩ := HP.out.wd.rd
      exact (Array.getElem?_eq_some_iff.1 hi).1
    have hall : AllU outF := by have := unxI_all (unpack l M); rwa [HU.out] at this
    have HWO : Hid (∀ z ∈ outF, (Lit.int .u64 z).wf = true) := Lib.hid fun z hz => by
      have := hall z hz
      unfold U64 at this
      exact wf_u64_of this.1 this.2
    obtain ⟨uo, uc, rfl, _, _, _⟩ := HOUT.out.shape
    clear hgr hall HP Q3 HS3 HSH
    by_cases hbig : 1000 < m
    · have HNO : Hid (¬ (okB l M ∧ okXI (unpack l (M : Int).toNat))) := Lib.hid fun h => by
        have h2 := h.2.2.1
        rw [Int.toNat_natCast, HU.out] at h2
        have h3 : outF.length ≤ 1000 := h2
        have := HLO.out
        omega
      have t2 : ((2 : Int) != 0) = true := by decide
      go_wp2_with fail
      refine (XorPacks.pack_large _ m _ _ HOUT.out hbig (by omega)).mono ?_
      rintro e w5 ⟨rfl, hb5⟩
      have hc5 := (hb5.cell (p := ⟨rb, 3, none⟩) hrbc).trans hc3
      have hrb5 := Nat.lt_of_lt_of_le hrbc hb5.size
      have hB5 := hBc.trans (hb5.mono hBc.size)
      have hB6 := hB5.alloc hB5.size (Obj.cells #[.slice none 0 0, .int .i64 0] 25)
      cases shF
      · go_wp2_with fail
        go_ret2
        exact ⟨hB6, Or.inr ⟨HNO.out, rfl⟩⟩
      · go_wp2_with fail
        go_ret2
        exact ⟨hB6, Or.inr ⟨HNO.out, rfl⟩⟩
    · have hm1 : m ≤ 1000 := by omega
      clear hbig
      obtain ⟨ts, hts⟩ : ∃ ts, (msTo outF m).1 = ts := ⟨_, rfl⟩
      have htl : ts.length ≤ 78080 := by rw [← hts]; have := ms_len outF m; omega
      have HTS := Lib.hid hts
      have HP := pack_any _ m outF _ HOUT.out HLO.out HWO.out hm1 HTc.out hTc2
      rw [hts] at HP
      have HPK := Lib.hid HP
      obtain ⟨L, hL⟩ : ∃ L, pack ts = L := ⟨_, rfl⟩
      have HLL2 := Lib.hid hL
      clear HP hts
      by_cases hgood : shF = false ∧ ts = unpack l M
      · obtain ⟨rfl, hgd⟩ := hgood
        have HGD := Lib.hid hgd
        have hLl : L = l := by rw [← hL, hgd]; exact pack_unpack l M HBY.out HOK.out
        have htM : ts.length = M := by rw [hgd, unpack_len]
        have HYES : Hid (okB l M ∧ okXI (unpack l (M : Int).toNat)) := Lib.hid ⟨HOK.out, by
          rw [Int.toNat_natCast]
          refine ⟨by rw [HU.out], by rw [HU.out]; show outF.length ≤ 1000; rw [HLO.out]; exact hm1, ?_⟩
          rw [HU.out]
          show (msTo outF outF.length).1 = _
          rw [HLO.out, HTS.out, HGD.out]⟩
        clear hgd
        go_wp2_with fail
        refine HPK.out.mono ?_
        rintro e w5 ⟨vb, rfl, hownb, hb5⟩
        rw [hL, hLl] at hownb
        rw [htM]
        have hslb := own_sl hownb
        obtain ⟨po, pc, rfl, _, _, _⟩ := hslb.shape
        have HSLB := Lib.hid hslb
        have hc5 := (hb5.cell (p := ⟨rb, 3, none⟩) hrbc).trans hc3
        have hrb5 := Nat.lt_of_lt_of_le hrbc hb5.size
        have q5 := (hb5.block w.heap.size (by omega)).trans QC.out
        have hB5 := hBc.trans (hb5.mono hBc.size)
        clear hownb hslb hL hLl htM
        go_upto_region 17 with (fail)
        refine wp_abs (fun wx => wx.heap[w.heap.size]? = some (.cells #[.slice ao len cp, .int .i64 M] 25 (0, 0)) ∧ wx.heap[w5.heap.size]? = some (.cells #[.slice po l.length pc, .int .i64 M] 25 (0, 0)) ∧ wx.cell? ⟨rb, 3, none⟩ = some (.bool false) ∧ Below w.heap.size w wx ∧ Below wc.heap.size wc wx ∧ Below w5.heap.size w5 wx)
          ⟨(Below.heap_alloc _ _ _ (by omega)).trans q5, heap_alloc_new w5 _, ((Below.refl w5.heap.size w5).alloc (Nat.le_refl _) _ |>.cell (p := ⟨rb, 3, none⟩) hrb5).trans hc5, hB5.alloc hB5.size _, hb5.alloc hb5.size _, (Below.refl _ w5).alloc (Nat.le_refl _) _⟩ ?_
        rintro w6 ⟨q6, p6, c6, hB6, hb6, hb56⟩
        obtain ⟨⟨x0, x1⟩, -⟩ := box2 q6
        obtain ⟨⟨y0, y1⟩, -⟩ := box2 p6
        have t1 : ((M : Int) != (M : Int)) = false := by simp
        have HE := eqb_any _ _ l.length len l l w6 (HSLB.out.below hb56) (HSc.out.below hb6) rfl HLL.out
        rw [show decide (l = l) = true from by simp] at HE
        have HEQ := Lib.hid HE
        clear HE
        go_wp2_with fail
        refine HEQ.out.mono ?_
        rintro e w7 ⟨rfl, hb7⟩
        go_wp2_with fail
        go_ret2
        exact ⟨hB6.trans (hb7.mono hB6.size), Or.inl ⟨HYES.out.1, HYES.out.2, _, m, rfl, by rw [Int.toNat_natCast, HU.out]; exact (HOUT.out.below hb6).below hb7, by rw [Int.toNat_natCast, HU.out]; exact HLO.out⟩⟩
      · have HNO : Hid (¬ (okB l M ∧ okXI (unpack l (M : Int).toNat))) := Lib.hid fun h => by
          obtain ⟨_, h1, h2, h3⟩ := h
          rw [Int.toNat_natCast, HU.out] at h1 h2 h3
          refine hgood ⟨h1, ?_⟩
          have h4 : (msTo outF outF.length).1 = unpack l M := h3
          rw [HLO.out, HTS.out] at h4
          exact h4
        go_wp2_with fail
        refine HPK.out.mono ?_
        rintro e w5 ⟨vb, rfl, hownb, hb5⟩
        have hLb : L.length ≤ 10000 := by rw [← hL, pack_len]; omega
        rw [hL] at hownb
        have hslb := own_sl hownb
        obtain ⟨po, pc, rfl, _, _, _⟩ := hslb.shape
        have HSLB := Lib.hid hslb
        have hc5 := (hb5.cell (p := ⟨rb, 3, none⟩) hrbc).trans hc3
        have hrb5 := Nat.lt_of_lt_of_le hrbc hb5.size
        have q5 := (hb5.block w.heap.size (by omega)).trans QC.out
        have hB5 := hBc.trans (hb5.mono hBc.size)
        clear hownb hslb
        obtain ⟨M2, hM2⟩ : ∃ M2, ts.length = M2 := ⟨_, rfl⟩
        have HM2 := Lib.hid hM2
        rw [hM2]
        clear hM2
        go_upto_region 17 with (fail)
        refine wp_abs (fun wx => wx.heap[w.heap.size]? = some (.cells #[.slice ao len cp, .int .i64 M] 25 (0, 0)) ∧ wx.heap[w5.heap.size]? = some (.cells #[.slice po L.length pc, .int .i64 M2] 25 (0, 0)) ∧ wx.cell? ⟨rb, 3, none⟩ = some (.bool shF) ∧ Below w.heap.size w wx ∧ Below wc.heap.size wc wx ∧ Below w5.heap.size w5 wx)
          ⟨(Below.heap_alloc _ _ _ (by omega)).trans q5, heap_alloc_new w5 _, ((Below.refl w5.heap.size w5).alloc (Nat.le_refl _) _ |>.cell (p := ⟨rb, 3, none⟩) hrb5).trans hc5, hB5.alloc hB5.size _, hb5.alloc hb5.size _, (Below.refl _ w5).alloc (Nat.le_refl _) _⟩ ?_
        rintro w6 ⟨q6, p6, c6, hB6, hb6, hb56⟩
        obtain ⟨⟨x0, x1⟩, -⟩ := box2 q6
        obtain ⟨⟨y0, y1⟩, -⟩ := box2 p6
        cases shF with
        | true =>
          go_wp2_with fail
          go_ret2
          exact ⟨hB6, Or.inr ⟨HNO.out, rfl⟩⟩
        | false =>
          by_cases hMM : M2 = M
          · subst hMM
            have hne : ¬ L = l := fun h => hgood ⟨rfl, by
              have h5 := unpack_pack ts
              rw [hL, h, HM2.out] at h5
              exact h5.symm⟩
            have t1 : ((M2 : Int) != (M2 : Int)) = false := by simp
            have HE := eqb_any _ _ L.length len L l w6 (HSLB.out.below hb56) (HSc.out.below hb6) rfl HLL.out
            rw [decide_eq_false hne] at HE
            have HEQ := Lib.hid HE
            clear HE hne hgood
            go_wp2_with fail
            refine HEQ.out.mono ?_
            rintro e w7 ⟨rfl, hb7⟩
            go_wp2_with fail
            go_ret2
            exact ⟨hB6.trans (hb7.mono hB6.size), Or.inr ⟨HNO.out, rfl⟩⟩
          · have t1 : ((M2 : Int) != (M : Int)) = true := by rw [bne_iff_ne]; omega
            clear hMM hgood
            go_wp2_with fail
            go_ret2
            exact ⟨hB6, Or.inr ⟨HNO.out, rfl⟩⟩
end Go.Proofs.YtmbmognhbljliaaDoor.Xor
