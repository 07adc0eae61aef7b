/-
  The walk of delta.Unpack.
-/
import Derived.Test.YtmbmognhbljliaaDoorDO2
import Derived.Test.YtmbmognhbljliaaDoorBits5
import Derived.Test.YtmbmognhbljliaaDoorBitsV
import Derived.Test.YtmbmognhbljliaaDoorDeltaPacks
import Derived.Test.YtmbmognhbljliaaDoorLib3
namespace Go.Proofs.YtmbmognhbljliaaDoor.Delta
open Go.RowKit Go.Gh Go.Proofs.YtmbmognhbljliaaDoor.Bits
set_option linter.unusedVariables false
theorem infoI64 : (Tryd.prog.info? 2).map (fun i => (i.zero, i.size, i.bytes)) = some (some (.int .i64 0), 1, 8) := by kernel_rfl
theorem elI64 : Elem Tryd.prog 22 2 1 8 := elem_of Tryd.underlying22 infoI64 rfl (by decide)
theorem own_grown {w w' : World} {B rb : Nat} {e : TypeId} {size n : Nat} {v : Value} {xs : List Value} (h : w.ownsRow B e size v n xs) (hg : w.grownBy w' (some rb)) (hr : rb < B) : w'.ownsRow B e size v n xs := by
  obtain ⟨h1, h2⟩ := h
  refine ⟨h1, ?_⟩
  rcases h2 with h2 | ⟨g, cap, cur, ha, hb, hc, hd⟩
  · exact Or.inl h2
  · exact Or.inr ⟨g, cap, cur, ha, hb, (hg.block g (Array.getElem?_eq_some_iff.1 hc).1 (by simp; omega)).trans hc, hd⟩
theorem grown_past {w w1 w2 : World} {rb : Nat} {row : Option Nat} (h : w.grownBy w1 (some rb)) (hg : w1.grownBy w2 row) (hrow : ∀ k, row = some k → w.heap.size ≤ k) : w.grownBy w2 (some rb) :=
  ⟨hg.os.trans h.os, hg.tape.trans h.tape, hg.output.trans h.output, Nat.le_trans h.size hg.size, fun k hk hne => (hg.block k (Nat.lt_of_lt_of_le hk h.size) (fun he => by have := hrow k he.symm; omega)).trans (h.block k hk hne)⟩
/-- How far the reading has come: the reader, the row of what was read. -/
structure UpAt (w3 : World) (rb base : Nat) (bs : Value) (len : Nat) (l : List Int) (N : Nat) (r : List Bool) (sh : Bool) (out : List Int) (m : Nat) (u : Value) (wx : World) : Prop where
  rd : RAt w3 rb bs len l N r sh wx
  own : wx.ownsRow base 2 1 u m (out.map (Value.int .i64))
  len : out.length = m
theorem UpAt.take {w3 wx wy : World} {rb base : Nat} {bs : Value} {len : Nat} {l : List Int} {N : Nat} {r r2 : List Bool} {sh sh2 : Bool} {out : List Int} {m : Nat} {u : Value} (h : UpAt w3 rb base bs len l N r sh out m u wx) (hr : RAt w3 rb bs len l N r2 sh2 wy) (hg : wx.grownBy wy (some rb)) (hb : rb < base) : UpAt w3 rb base bs len l N r2 sh2 out m u wy :=
  ⟨hr, own_grown h.own hg hb, h.len⟩
theorem UpAt.app {w3 wx wy : World} {rb base : Nat} {bs : Value} {len : Nat} {l : List Int} {N : Nat} {r : List Bool} {sh : Bool} {out : List Int} {m : Nat} {u v' : Value} {z : Int} (h : UpAt w3 rb base bs len l N r sh out m u wx) (hb : rb < base) (hbase : w3.heap.size ≤ base) (hown : wy.ownsRow base 2 1 v' (m + 1) (out.map (Value.int .i64) ++ [Value.int .i64 z])) (hg : wx.grownBy wy u.ownBlock) :
    UpAt w3 rb base bs len l N r sh (out ++ [z]) (m + 1) v' wy := by
  obtain ⟨⟨a, ha, hi, hr⟩, hgr⟩ := h.rd
  refine ⟨⟨⟨a, ha, grown_block2 hg (fun he => by have := (h.own.lt _ he).1; omega) hi, hr⟩, grown_past hgr hg (fun k hk => by have := (h.own.lt _ hk).1; omega)⟩, ?_, by simp [h.len]⟩
  rw [List.map_append]
  exact hown
theorem tk_bd (n : Nat) (r : List Bool) (sh : Bool) : 0 ≤ (tk n r sh).1 ∧ (tk n r sh).1 < 2 ^ n := by
  unfold tk
  split
  · have h := valF_bd (r.take n)
    have hl : (r.take n).length = n := by rw [List.length_take]; omega
    rw [hl] at h
    exact h
  · exact ⟨Int.le_refl _, two_pow_pos n⟩
theorem rat_cell {w wx : World} {rb : Nat} {bs : Value} {len : Nat} {l : List Int} {N : Nat} {r : List Bool} {sh : Bool} (h : RAt w rb bs len l N r sh wx) : wx.cell? ⟨rb, 3, none⟩ = some (.bool sh) := by
  obtain ⟨⟨a, _, hi, _⟩, _⟩ := h
  exact (row_cell 3 _ hi rfl).1
def UPost (l : List Int) (N : Int) (w : World) (e : Ending) (w' : World) : Prop :=
  Below w.heap.size w w' ∧ ((okB l N ∧ okI (unpack l N.toNat) ∧ ∃ v n, e = .returned (.tuple #[v, .int .i64 0]) ∧ Sl w' 1 v n ((unpI (unpack l N.toNat)).1.map (Value.int .i64)) ∧ (unpI (unpack l N.toNat)).1.length = n) ∨ (¬ (okB l N ∧ okI (unpack l N.toNat)) ∧ e = .returned (.tuple #[.slice none 0 0, .int .i64 4])))
set_option maxHeartbeats 8000000 in
set_option maxRecDepth 100000 in
theorem unpack_any (v : Value) (l : List Int) (N : Int) (w : World) (hv : BitsV w v l N) (hN : N ≤ 2000) (hT : Table w) :
    Calls Tryd.prog 13 #[v] w (UPost l N w) := by
  have hv0 := hv
  obtain ⟨b, len, rfl, hs, hby, hwf, hlen, hN0, hN1⟩ := hv
  obtain ⟨ao, cp, rfl, hnc, hcp, hll⟩ := hs.shape
  have hll : l.length = len := by simpa using hll
  have HS0 := Lib.hid hs
  have HWF := Lib.hid hwf
  have HBY := Lib.hid hby
  have HLL := Lib.hid hll
  have HT := Lib.hid hT
  have hw0 : 0 < w.heap.size := hT.1
  clear hs hwf hby hll hT
  go_enter Tryd.func13, Tryd.ntmps13
  go_upto_region 1 with (fail)
  refine wp_abs (fun wA => wA.heap[w.heap.size]? = some (.cells #[.slice ao len cp, .int .i64 N] 25 (0, 0)) ∧ Below w.heap.size w wA ∧ w.heap.size < wA.heap.size) ⟨heap_alloc_new w _, (Below.refl _ _).alloc (Nat.le_refl _) _, by simp⟩ ?_
  rintro wA ⟨hA0, hAb, hAs⟩
  obtain ⟨⟨x0, x1⟩, -⟩ := box2 hA0
  by_cases hok : okB l N
  case neg =>
    have HF : Hid (faultB l N = 4) := Lib.hid (if_neg hok)
    have HNO : Hid (¬ (okB l N ∧ okI (unpack l N.toNat))) := Lib.hid fun h => hok h.1
    clear hok
    go_wp2_with fail
    refine (check_any _ l N _ (bv_below hv0 hAb)).mono ?_
    rw [HF.out]
    rintro e w1 ⟨rfl, hb1⟩
    go_wp2_with fail
    go_ret2
    exact ⟨hAb.trans (hb1.mono hAb.size), Or.inr ⟨HNO.out, rfl⟩⟩
  have HF : Hid (faultB l N = 0) := Lib.hid (if_pos hok)
  have hN8 : 0 ≤ N ∧ N ≤ 8 * l.length := ⟨hok.1, hok.2.1⟩
  rw [HLL.out] at hN8
  have HOK := Lib.hid hok
  clear hok
  obtain ⟨M, rfl⟩ : ∃ M : Nat, N = M := ⟨N.toNat, by omega⟩
  go_wp2_with fail
  refine (check_any _ l M _ (bv_below hv0 hAb)).mono ?_
  rw [HF.out]
  rintro e w1 ⟨rfl, hb1⟩
  have hB1 := hAb.trans (hb1.mono hAb.size)
  have hA1 := (hb1.block _ hAs).trans hA0
  have hs1 : w.heap.size < w1.heap.size := Nat.lt_of_lt_of_le hAs hb1.size
  clear x0 x1 hA0 hb1 hAb hAs
  obtain ⟨⟨x0, x1⟩, -⟩ := box2 hA1
  go_upto_region 5 with (fail)
  refine wp_abs (fun wx => wx.heap[w.heap.size]? = some (.cells #[.slice ao len cp, .int .i64 M] 25 (0, 0)) ∧ RInv wx w1.heap.size (.slice ao len cp) M 0 false ∧ Below w.heap.size w wx ∧ w1.heap.size < wx.heap.size)
    ⟨(Below.heap_alloc _ _ _ (by omega)).trans hA1, heap_alloc_new w1 _, hB1.alloc hB1.size _, by simp⟩ ?_
  have hne := sl_old (HS0.out.below hB1) (by decide)
  obtain ⟨rb, hrb⟩ : ∃ rb, w1.heap.size = rb := ⟨_, rfl⟩
  rw [hrb] at hs1 hne ⊢
  clear hA1 x0 x1 hrb hB1
  rintro w3 ⟨q3, hR3, hB3, hs3⟩
  have HS3 := Lib.hid (HS0.out.below hB3)
  have HNE := Lib.hid hne
  have HT3 := Lib.hid (HT.out.below hB3)
  have hrd : RAt w3 rb (.slice ao len cp) len l M (unpack l M) false w3 := ⟨⟨0, Nat.zero_le _, hR3, List.drop_zero⟩, World.grownBy.refl _ _⟩
  have HC16 := take_at 16 HS3.out HWF.out hlen (by omega) (by decide) hne hrd
  obtain ⟨T, hT16⟩ : ∃ T, tk 16 (unpack l M) false = T := ⟨_, rfl⟩
  have hVb := tk_bd 16 (unpack l M) false
  rw [hT16] at HC16 hVb
  obtain ⟨V, r0, sh0⟩ := T
  obtain ⟨K, rfl⟩ : ∃ K : Nat, V = K := ⟨V.toNat, (Int.toNat_of_nonneg hVb.1).symm⟩
  have hK : K < 65536 := by
    have h := hVb.2
    have e : (2 : Int) ^ 16 = 65536 := by decide
    rw [e] at h
    have : ((K : Int)) < 65536 := h
    omega
  obtain ⟨R, hR⟩ : ∃ R, unpI (unpack l M) = R := ⟨_, rfl⟩
  obtain ⟨outF, shF⟩ := R
  have HU := Lib.hid hR
  have HGO : Hid (goI K true 0 0 [] r0 sh0 = (outF, shF)) := Lib.hid (by rw [← hR]; unfold unpI; rw [hT16]; rfl)
  have HCC := Lib.hid HC16
  have HB3 := Lib.hid hB3
  have Q3 := Lib.hid q3
  clear HC16 hVb hR hT16 hrd hR3 q3 hB3
  go_wp2_with fail
  refine HCC.out.mono ?_
  rintro e w4 ⟨rfl, hr4, hg4⟩
  obtain ⟨base, hbase⟩ : ∃ base, w3.heap.size = base := ⟨_, rfl⟩
  have hrbb : rb < base := by omega
  have hUP : UpAt w3 rb base (.slice ao len cp) len l M r0 sh0 [] 0 (.slice none 0 0) w4 := ⟨hr4, World.ownsRow_nil _ _ _ _, rfl⟩
  have HUP := Lib.hid hUP
  have HBASE := Lib.hid hbase
  clear hr4 hg4 hUP hbase HCC
  go_upto_block 0 with fail
  go_cut [6] (fun x wx => ∃ m r, m ≤ K ∧ Hid (UpAt w3 rb base (.slice ao len cp) len l M r shF outF m x wx))
  case first =>
    go_wp2_with fail
    go_loopw [6, 7, 8, 10] (fun u a b i wx => ∃ (j f : Nat) (last step : Int) (out : List Int) (r : List Bool) (sh : Bool), j + f = K ∧ i = .int .i64 j ∧ a = .int .i64 last ∧ b = .int .i64 step ∧ Hid (goI f (decide (j = 0)) last step out r sh = (outF, shF)) ∧ Hid (UpAt w3 rb base (.slice ao len cp) len l M r sh out j u wx)) (fun _ _ _ i _ => K - (intOf i).toNat)
    case atStart => exact ⟨0, K, 0, 0, [], r0, sh0, by omega, rfl, rfl, rfl, HGO, HUP⟩
    case round =>
      obtain ⟨j, f, last, step, out, r, sh, hjf, rfl, rfl, rfl, HG, HP⟩ := hrel
      have hc3 := rat_cell HP.out.rd
      cases f with
      | zero =>
        obtain rfl : j = K := by omega
        have h1 := HG.out
        rw [goI] at h1
        have e1 : out = outF := congrArg Prod.fst h1
        have e2 : sh = shF := congrArg Prod.snd h1
        subst e1 e2
        clear h1 HG
        go_wp2_with fail
        go_meet
        exact ⟨_, _, by omega, HP⟩
      | succ f =>
        have hjK : j < K := by omega
        cases sh with
        | true =>
          have h1 := HG.out
          rw [goI, if_pos rfl] at h1
          have e1 : out = outF := congrArg Prod.fst h1
          have e2 : true = shF := congrArg Prod.snd h1
          subst e1 e2
          clear h1 HG
          go_wp2_with fail
          go_meet
          exact ⟨_, _, by omega, HP⟩
        | false =>
          have hj8 : (j + 1) * 8 ≤ 140737488355328 := by omega
          have h1 := HG.out
          rw [goI, if_neg (by simp)] at h1
          by_cases hj0 : j = 0
          · subst hj0
            rw [if_pos (by simp)] at h1
            have HC := take_at 64 HS3.out HWF.out hlen (by omega) (by decide) HNE.out HP.out.rd
            obtain ⟨T, hT⟩ : ∃ T, tk 64 r false = T := ⟨_, rfl⟩
            obtain ⟨V, r2, sh2⟩ := T
            rw [hT] at HC h1
            have HCC := Lib.hid HC
            have HG2 := Lib.hid h1
            clear HC h1 hT HG
            go_wp2_with fail
            refine HCC.out.mono ?_
            rintro e w5 ⟨rfl, hr5, hg5⟩
            have HP5 := Lib.hid (HP.out.take hr5 hg5 hrbb)
            clear hr5 hg5 HCC
            have hown := HP5.out.own
            have hsz : base ≤ w5.heap.size := by rw [← HBASE.out]; exact HP5.out.rd.gr.size
            go_wp2_with (at_builtin; refine append1 [Value.int .i64 _] elI64 rfl _ _ rfl hown (Below.refl base _) hsz rfl rfl rfl (by intro u hu; simp at hu; subst hu; rfl) ?c4 ?c5 ?_)
            case c4 => omega
            case c5 => omega
            intro v' w6 hown6 _ hg6
            have HP6 := Lib.hid (HP5.out.app hrbb (by rw [HBASE.out]; exact Nat.le_refl _) hown6 hg6)
            have HG3 : Hid (goI f (decide (0 + 1 = 0)) (wrap64 V) step (out ++ [wrap64 V]) r2 sh2 = (outF, shF)) := Lib.hid (by
              have h := HG2.out
              have e : wI V = wrap64 V := IntWalk.i64_left V
              rw [e] at h
              exact h)
            clear hown6 hg6 hown HG2
            go_wp2_with fail
            go_roundw
            case rel => exact ⟨0 + 1, f, _, _, _, r2, sh2, by omega, by go_num, rfl, rfl, HG3, HP6⟩
            case measure => simp [intOf]; omega
          · rw [if_neg (by simp [hj0])] at h1
            have hjb : ((j : Int) == 0) = false := by rw [beq_eq_false_iff_ne]; omega
            have HC := change_any HS3.out HWF.out hlen (by omega) HNE.out HP.out.rd HT3.out (by omega)
            obtain ⟨T, hT⟩ : ∃ T, chI r false = T := ⟨_, rfl⟩
            obtain ⟨V, r2, sh2⟩ := T
            rw [hT] at HC h1
            have HCC := Lib.hid HC
            obtain ⟨st2, hst2⟩ : ∃ s, wrap64 (step + V) = s := ⟨_, rfl⟩
            obtain ⟨la2, hla2⟩ : ∃ s, wrap64 (last + st2) = s := ⟨_, rfl⟩
            have HG3 : Hid (goI f (decide (j + 1 = 0)) la2 st2 (out ++ [la2]) r2 sh2 = (outF, shF)) := Lib.hid (by
              have e1 : wI (step + V) = st2 := by rw [← hst2]; exact IntWalk.i64_left _
              have e2 : wI (last + st2) = la2 := by rw [← hla2]; exact IntWalk.i64_left _
              have h : goI f false (wI (last + wI (step + V))) (wI (step + V)) (out ++ [wI (last + wI (step + V))]) r2 sh2 = (outF, shF) := h1
              rw [e1, e2] at h
              rw [show decide (j + 1 = 0) = false from by simp]
              exact h)
            clear HC h1 hT HG hj0
            go_wp2_with fail
            refine HCC.out.mono ?_
            rintro e w5 ⟨rfl, hr5, hg5⟩
            have HP5 := Lib.hid (HP.out.take hr5 hg5 hrbb)
            clear hr5 hg5 HCC
            have hown := HP5.out.own
            have hsz : base ≤ w5.heap.size := by rw [← HBASE.out]; exact HP5.out.rd.gr.size
            go_wp2_with (at_builtin; refine append1 [Value.int .i64 la2] elI64 rfl _ _ rfl hown (Below.refl base _) hsz rfl rfl rfl (by intro u hu; simp at hu; subst hu; rfl) ?c4 ?c5 ?_)
            case c4 => omega
            case c5 => omega
            intro v' w6 hown6 _ hg6
            have HP6 := Lib.hid (HP5.out.app hrbb (by rw [HBASE.out]; exact Nat.le_refl _) hown6 hg6)
            clear hown6 hg6 hown
            go_wp2_with fail
            go_roundw
            case rel => exact ⟨j + 1, f, _, _, _, r2, sh2, by omega, by go_num, rfl, rfl, HG3, HP6⟩
            case measure => simp [intOf]; omega
  case rest =>
    obtain ⟨m, r, hmK, HP⟩ := hcut
    have hgr := HP.out.rd.gr
    have hBc : Below w.heap.size w wc := Below.grown HB3.out hgr (by omega) (fun k hk => by simp at hk; omega)
    have QC := Lib.hid ((hgr.block w.heap.size (by omega) (by simp; omega)).trans Q3.out)
    have HTc := Lib.hid (HT3.out.grown hgr (by omega))
    have HSc := Lib.hid (Sl.grown HS3.out hgr HNE.out)
    have hc3 := rat_cell HP.out.rd
    have HOUT := Lib.hid (own_sl HP.out.own)
    have HLO := Lib.hid HP.out.len
    have hrbc : rb < wc.heap.size := by
      obtain ⟨⟨a, _, hi, _⟩, _⟩ := HP.out.rd
      exact (Array.getElem?_eq_some_iff.1 hi).1
    have hall : AllI outF := by have := unpI_all (unpack l M); rwa [HU.out] at this
    have HWO : Hid (∀ z ∈ outF, (Lit.int .i64 z).wf = true) := Lib.hid fun z hz => by
      have := hall z hz
      unfold I64 at this
      exact Go.WalkArith.wf_i64 ⟨this.1, by omega⟩
    obtain ⟨uo, uc, rfl, _, _, _⟩ := HOUT.out.shape
    clear hgr hall HP Q3 HT3 HS3 HBASE
    by_cases hbig : 1000 < m
    · have HNO : Hid (¬ (okB l M ∧ okI (unpack l (M : Int).toNat))) := Lib.hid fun h => by
        have h2 := h.2.2.1
        rw [Int.toNat_natCast, HU.out] at h2
        have h3 : outF.length ≤ 1000 := h2
        have := HLO.out
        omega
      have t2 : ((2 : Int) != 0) = true := by decide
      go_wp2_with fail
      refine (DeltaPacks.pack_large _ m _ _ HOUT.out hbig (by omega)).mono ?_
      rintro e w5 ⟨rfl, hb5⟩
      have hc5 := (hb5.cell (p := ⟨rb, 3, none⟩) hrbc).trans hc3
      have hrb5 := Nat.lt_of_lt_of_le hrbc hb5.size
      have hB5 := hBc.trans (hb5.mono hBc.size)
      have hB6 := hB5.alloc hB5.size (Obj.cells #[.slice none 0 0, .int .i64 0] 25)
      cases shF
      · go_wp2_with fail
        go_ret2
        exact ⟨hB6, Or.inr ⟨HNO.out, rfl⟩⟩
      · go_wp2_with fail
        go_ret2
        exact ⟨hB6, Or.inr ⟨HNO.out, rfl⟩⟩
    · have hm1 : m ≤ 1000 := by omega
      clear hbig
      obtain ⟨ts, hts⟩ : ∃ ts, tsTo outF m = ts := ⟨_, rfl⟩
      have htl : ts.length ≤ 68080 := by rw [← hts]; have := ts_len outF m; omega
      have HTS := Lib.hid hts
      have HP := pack_any _ m outF _ HOUT.out HLO.out HWO.out hm1 HTc.out
      rw [hts] at HP
      have HPK := Lib.hid HP
      obtain ⟨L, hL⟩ : ∃ L, pack ts = L := ⟨_, rfl⟩
      have HLL2 := Lib.hid hL
      clear HP hts
      by_cases hgood : shF = false ∧ ts = unpack l M
      · obtain ⟨rfl, hgd⟩ := hgood
        have HGD := Lib.hid hgd
        have hLl : L = l := by rw [← hL, hgd]; exact pack_unpack l M HBY.out HOK.out
        have htM : ts.length = M := by rw [hgd, unpack_len]
        have HYES : Hid (okB l M ∧ okI (unpack l (M : Int).toNat)) := Lib.hid ⟨HOK.out, by
          rw [Int.toNat_natCast]
          refine ⟨by rw [HU.out], by rw [HU.out]; show outF.length ≤ 1000; rw [HLO.out]; exact hm1, ?_⟩
          rw [HU.out]
          show tsTo outF outF.length = _
          rw [HLO.out, HTS.out, HGD.out]⟩
        clear hgd
        go_wp2_with fail
        refine HPK.out.mono ?_
        rintro e w5 ⟨vb, rfl, hownb, hb5⟩
        rw [hL, hLl] at hownb
        rw [htM]
        have hslb := own_sl hownb
        obtain ⟨po, pc, rfl, _, _, _⟩ := hslb.shape
        have HSLB := Lib.hid hslb
        have hc5 := (hb5.cell (p := ⟨rb, 3, none⟩) hrbc).trans hc3
        have hrb5 := Nat.lt_of_lt_of_le hrbc hb5.size
        have q5 := (hb5.block w.heap.size (by omega)).trans QC.out
        have hB5 := hBc.trans (hb5.mono hBc.size)
        clear hownb hslb hL hLl htM
        go_upto_region 17 with (fail)
        refine wp_abs (fun wx => wx.heap[w.heap.size]? = some (.cells #[.slice ao len cp, .int .i64 M] 25 (0, 0)) ∧ wx.heap[w5.heap.size]? = some (.cells #[.slice po l.length pc, .int .i64 M] 25 (0, 0)) ∧ wx.cell? ⟨rb, 3, none⟩ = some (.bool false) ∧ Below w.heap.size w wx ∧ Below wc.heap.size wc wx ∧ Below w5.heap.size w5 wx)
          ⟨(Below.heap_alloc _ _ _ (by omega)).trans q5, heap_alloc_new w5 _, ((Below.refl w5.heap.size w5).alloc (Nat.le_refl _) _ |>.cell (p := ⟨rb, 3, none⟩) hrb5).trans hc5, hB5.alloc hB5.size _, hb5.alloc hb5.size _, (Below.refl _ w5).alloc (Nat.le_refl _) _⟩ ?_
        rintro w6 ⟨q6, p6, c6, hB6, hb6, hb56⟩
        obtain ⟨⟨x0, x1⟩, -⟩ := box2 q6
        obtain ⟨⟨y0, y1⟩, -⟩ := box2 p6
        have t1 : ((M : Int) != (M : Int)) = false := by simp
        have HE := eqb_any _ _ l.length len l l w6 (HSLB.out.below hb56) (HSc.out.below hb6) rfl HLL.out
        rw [show decide (l = l) = true from by simp] at HE
        have HEQ := Lib.hid HE
        clear HE
        go_wp2_with fail
        refine HEQ.out.mono ?_
        rintro e w7 ⟨rfl, hb7⟩
        go_wp2_with fail
        go_ret2
        exact ⟨hB6.trans (hb7.mono hB6.size), Or.inl ⟨HYES.out.1, HYES.out.2, _, m, rfl, by rw [Int.toNat_natCast, HU.out]; exact (HOUT.out.below hb6).below hb7, by rw [Int.toNat_natCast, HU.out]; exact HLO.out⟩⟩
      · have HNO : Hid (¬ (okB l M ∧ okI (unpack l (M : Int).toNat))) := Lib.hid fun h => by
          obtain ⟨_, h1, h2, h3⟩ := h
          rw [Int.toNat_natCast, HU.out] at h1 h2 h3
          refine hgood ⟨h1, ?_⟩
          have h4 : tsTo outF outF.length = unpack l M := h3
          rw [HLO.out, HTS.out] at h4
          exact h4
        go_wp2_with fail
        refine HPK.out.mono ?_
        rintro e w5 ⟨vb, rfl, hownb, hb5⟩
        have hLb : L.length ≤ 9000 := by rw [← hL, pack_len]; omega
        rw [hL] at hownb
        have hslb := own_sl hownb
        obtain ⟨po, pc, rfl, _, _, _⟩ := hslb.shape
        have HSLB := Lib.hid hslb
        have hc5 := (hb5.cell (p := ⟨rb, 3, none⟩) hrbc).trans hc3
        have hrb5 := Nat.lt_of_lt_of_le hrbc hb5.size
        have q5 := (hb5.block w.heap.size (by omega)).trans QC.out
        have hB5 := hBc.trans (hb5.mono hBc.size)
        clear hownb hslb
        obtain ⟨M2, hM2⟩ : ∃ M2, ts.length = M2 := ⟨_, rfl⟩
        have HM2 := Lib.hid hM2
        rw [hM2]
        clear hM2
        go_upto_region 17 with (fail)
        refine wp_abs (fun wx => wx.heap[w.heap.size]? = some (.cells #[.slice ao len cp, .int .i64 M] 25 (0, 0)) ∧ wx.heap[w5.heap.size]? = some (.cells #[.slice po L.length pc, .int .i64 M2] 25 (0, 0)) ∧ wx.cell? ⟨rb, 3, none⟩ = some (.bool shF) ∧ Below w.heap.size w wx ∧ Below wc.heap.size wc wx ∧ Below w5.heap.size w5 wx)
          ⟨(Below.heap_alloc _ _ _ (by omega)).trans q5, heap_alloc_new w5 _, ((Below.refl w5.heap.size w5).alloc (Nat.le_refl _) _ |>.cell (p := ⟨rb, 3, none⟩) hrb5).trans hc5, hB5.alloc hB5.size _, hb5.alloc hb5.size _, (Below.refl _ w5).alloc (Nat.le_refl _) _⟩ ?_
        rintro w6 ⟨q6, p6, c6, hB6, hb6, hb56⟩
        obtain ⟨⟨x0, x1⟩, -⟩ := box2 q6
        obtain ⟨⟨y0, y1⟩, -⟩ := box2 p6
        cases shF with
        | true =>
          go_wp2_with fail
          go_ret2
          exact ⟨hB6, Or.inr ⟨HNO.out, rfl⟩⟩
        | false =>
          by_cases hMM : M2 = M
          · subst hMM
            have hne : ¬ L = l := fun h => hgood ⟨rfl, by
              have h5 := unpack_pack ts
              rw [hL, h, HM2.out] at h5
              exact h5.symm⟩
            have t1 : ((M2 : Int) != (M2 : Int)) = false := by simp
            have HE := eqb_any _ _ L.length len L l w6 (HSLB.out.below hb56) (HSc.out.below hb6) rfl HLL.out
            rw [decide_eq_false hne] at HE
            have HEQ := Lib.hid HE
            clear HE hne hgood
            go_wp2_with fail
            refine HEQ.out.mono ?_
            rintro e w7 ⟨rfl, hb7⟩
            go_wp2_with fail
            go_ret2
            exact ⟨hB6.trans (hb7.mono hB6.size), Or.inr ⟨HNO.out, rfl⟩⟩
          · have t1 : ((M2 : Int) != (M : Int)) = true := by rw [bne_iff_ne]; omega
            clear hMM hgood
            go_wp2_with fail
            go_ret2
            exact ⟨hB6, Or.inr ⟨HNO.out, rfl⟩⟩
end Go.Proofs.YtmbmognhbljliaaDoor.Delta
