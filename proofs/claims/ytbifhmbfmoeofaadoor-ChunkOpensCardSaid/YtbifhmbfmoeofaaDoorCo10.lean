/-
  The walk of delta.Unpack.
-/
import Derived.Test.YtbifhmbfmoeofaaDoorCo4
import Derived.Test.YtbifhmbfmoeofaaDoorCo5
import Derived.Test.YtbifhmbfmoeofaaDoorCo8
import Derived.Test.YtbifhmbfmoeofaaDoorCo9
import Derived.Deep.RegionHeld3
namespace Go.Proofs.YtbifhmbfmoeofaaDoor.Delta
open Go.RowKit Go.Gh Go.Proofs.YtbifhmbfmoeofaaDoor.Bits
set_option linter.unusedVariables false
theorem infoI64 : (Tryd.prog.info? 2).map (fun i => (i.zero, i.size, i.bytes)) = some (some (.int .i64 0), 1, 8) := by kernel_rfl
theorem elI64 : Elem Tryd.prog 37 2 1 8 := elem_of Tryd.underlying37 infoI64 rfl (by decide)
theorem own_grown {w w' : World} {B rb : Nat} {e : TypeId} {size n : Nat} {v : Value} {xs : List Value} (h : w.ownsRow B e size v n xs) (hg : w.grownBy w' (some rb)) (hr : rb < B) : w'.ownsRow B e size v n xs := by
  obtain ⟨h1, h2⟩ := h
  refine ⟨h1, ?_⟩
  rcases h2 with h2 | ⟨g, cap, cur, ha, hb, hc, hd⟩
  · exact Or.inl h2
  · exact Or.inr ⟨g, cap, cur, ha, hb, (hg.block g (Array.getElem?_eq_some_iff.1 hc).1 (by simp; omega)).trans hc, hd⟩
theorem grown_past {w w1 w2 : World} {rb : Nat} {row : Option Nat} (h : w.grownBy w1 (some rb)) (hg : w1.grownBy w2 row) (hrow : ∀ k, row = some k → w.heap.size ≤ k) : w.grownBy w2 (some rb) :=
  ⟨hg.os.trans h.os, hg.tape.trans h.tape, hg.output.trans h.output, Nat.le_trans h.size hg.size, fun k hk hne => (hg.block k (Nat.lt_of_lt_of_le hk h.size) (fun he => by have := hrow k he.symm; omega)).trans (h.block k hk hne)⟩
/-- How far the reading has come: the reader, the row of what was read. -/
structure UpAt (w3 : World) (rb base : Nat) (bs : Value) (len : Nat) (l : List Int) (N : Nat) (r : List Bool) (sh : Bool) (out : List Int) (m : Nat) (u : Value) (wx : World) : Prop where
  rd : RAt w3 rb bs len l N r sh wx
  own : wx.ownsRow base 2 1 u m (out.map (Value.int .i64))
  len : out.length = m
theorem UpAt.take {w3 wx wy : World} {rb base : Nat} {bs : Value} {len : Nat} {l : List Int} {N : Nat} {r r2 : List Bool} {sh sh2 : Bool} {out : List Int} {m : Nat} {u : Value} (h : UpAt w3 rb base bs len l N r sh out m u wx) (hr : RAt w3 rb bs len l N r2 sh2 wy) (hg : wx.grownBy wy (some rb)) (hb : rb < base) : UpAt w3 rb base bs len l N r2 sh2 out m u wy :=
  ⟨hr, own_grown h.own hg hb, h.len⟩
theorem UpAt.app {w3 wx wy : World} {rb base : Nat} {bs : Value} {len : Nat} {l : List Int} {N : Nat} {r : List Bool} {sh : Bool} {out : List Int} {m : Nat} {u v' : Value} {z : Int} (h : UpAt w3 rb base bs len l N r sh out m u wx) (hb : rb < base) (hbase : w3.heap.size ≤ base) (hown : wy.ownsRow base 2 1 v' (m + 1) (out.map (Value.int .i64) ++ [Value.int .i64 z])) (hg : wx.grownBy wy u.ownBlock) :
    UpAt w3 rb base bs len l N r sh (out ++ [z]) (m + 1) v' wy := by
  obtain ⟨⟨a, ha, hi, hr⟩, hgr⟩ := h.rd
  refine ⟨⟨⟨a, ha, grown_block2 hg (fun he => by have := (h.own.lt _ he).1; omega) hi, hr⟩, grown_past hgr hg (fun k hk => by have := (h.own.lt _ hk).1; omega)⟩, ?_, by simp [h.len]⟩
  rw [List.map_append]
  exact hown
theorem tk_bd (n : Nat) (r : List Bool) (sh : Bool) : 0 ≤ (tk n r sh).1 ∧ (tk n r sh).1 < 2 ^ n := by
  unfold tk
  split
  · have h := valF_bd (r.take n)
    have hl : (r.take n).length = n := by rw [List.length_take]; omega
    rw [hl] at h
    exact h
  · exact ⟨Int.le_refl _, two_pow_pos n⟩
theorem rat_cell {w wx : World} {rb : Nat} {bs : Value} {len : Nat} {l : List Int} {N : Nat} {r : List Bool} {sh : Bool} (h : RAt w rb bs len l N r sh wx) : wx.cell? ⟨rb, 3, none⟩ = some (.bool sh) := by
  obtain ⟨⟨a, _, hi, _⟩, _⟩ := h
  exact (row_cell 3 _ hi rfl).1
def UPost (l : List Int) (N : Int) (w : World) (e : Ending) (w' : World) : Prop :=
  Below w.heap.size w w' ∧ ((okB l N ∧ okI (unpack l N.toNat) ∧ ∃ v n, e = .returned (.tuple #[v, .int .i64 0]) ∧ Sl w' 1 v n ((unpI (unpack l N.toNat)).1.map (Value.int .i64)) ∧ (unpI (unpack l N.toNat)).1.length = n) ∨ (¬ (okB l N ∧ okI (unpack l N.toNat)) ∧ e = .returned (.tuple #[.slice none 0 0, .int .i64 4])))
set_option maxHeartbeats 8000000 in
set_option maxRecDepth 100000 in
theorem unpack_any (v : Value) (l : List Int) (N : Int) (w : World) (hv : BitsV w v l N) (hN : N ≤ 4000) (hT : Table w) :
    Calls Tryd.prog 23 #[v] w (UPost l N w) := by
  have hv0 := hv
  obtain ⟨b, len, rfl, hs, hby, hwf, hlen, hN0, hN1⟩ := hv
  obtain ⟨ao, cp, rfl, hnc, hcp, hll⟩ := hs.shape
  have hll : l.length = len := by simpa using hll
  have HS0 := Lib.hid hs
  have HWF := Lib.hid hwf
  have HBY := Lib.hid hby
  have HLL := Lib.hid hll
  have HT := Lib.hid hT
  have hw0 : 0 < w.heap.size := hT.1
  clear hs hwf hby hll hT
  go_enter Tryd.func23, Tryd.ntmps23
  go_upto_region 1 with (fail)
  refine wp_abs (fun wA => wA.heap[w.heap.size]? = some (.cells #[.slice ao len cp, .int .i64 N] 39 (0, 0)) ∧ Below w.heap.size w wA ∧ w.heap.size < wA.heap.size) ⟨heap_alloc_new w _, (Below.refl _ _).alloc (Nat.le_refl _) _, by simp⟩ ?_
  rintro wA ⟨hA0, hAb, hAs⟩
  obtain ⟨⟨x0, x1⟩, -⟩ := box2 hA0
  by_cases hok : okB l N
  case neg =>
    have HF : Hid (faultB l N = 4) := Lib.hid (if_neg hok)
    have HNO : Hid (¬ (okB l N ∧ okI (unpack l N.toNat))) := Lib.hid fun h => hok h.1
    clear hok
    go_wp2_with fail
    refine (check_any _ l N _ (bv_below hv0 hAb)).mono ?_
    rw [HF.out]
    rintro e w1 ⟨rfl, hb1⟩
    go_wp2_with fail
    go_ret2
    exact ⟨hAb.trans (hb1.mono hAb.size), Or.inr ⟨HNO.out, rfl⟩⟩
  have HF : Hid (faultB l N = 0) := Lib.hid (if_pos hok)
  have hN8 : 0 ≤ N ∧ N ≤ 8 * l.length := ⟨hok.1, hok.2.1⟩
  rw [HLL.out] at hN8
  have HOK := Lib.hid hok
  clear hok
  obtain ⟨M, rfl⟩ : ∃ M : Nat, N = M := ⟨N.toNat, by omega⟩
  go_wp2_with fail
  refine (check_any _ l M _ (bv_below hv0 hAb)).mono ?_
  rw [HF.out]
  rintro e w1 ⟨rfl, hb1⟩
  have hB1 := hAb.trans (hb1.mono hAb.size)
  have hA1 := (hb1.block _ hAs).trans hA0
  have hs1 : w.heap.size < w1.heap.size := Nat.lt_of_lt_of_le hAs hb1.size
  clear x0 x1 hA0 hb1 hAb hAs
  obtain ⟨⟨x0, x1⟩, -⟩ := box2 hA1
  go_upto_region 5 with (fail)
  refine wp_abs (fun wx => wx.heap[w.heap.size]? = some (.cells #[.slice ao len cp, .int .i64 M] 39 (0, 0)) ∧ RInv wx w1.heap.size (.slice ao len cp) M 0 false ∧ Below w.heap.size w wx ∧ w1.heap.size < wx.heap.size)
    ⟨(Below.heap_alloc _ _ _ (by omega)).trans hA1, heap_alloc_new w1 _, hB1.alloc hB1.size _, by simp⟩ ?_
  have hne := sl_old (HS0.out.below hB1) (by decide)
  obtain ⟨rb, hrb⟩ : ∃ rb, w1.heap.size = rb := ⟨_, rfl⟩
  rw [hrb] at hs1 hne ⊢
  clear hA1 x0 x1 hrb hB1
  rintro w3 ⟨q3, hR3, hB3, hs3⟩
  have HS3 := Lib.hid (HS0.out.below hB3)
  have HNE := Lib.hid hne
  have HT3 := Lib.hid (HT.out.below hB3)
  have hrd : RAt w3 rb (.slice ao len cp) len l M (unpack l M) false w3 := ⟨⟨0, Nat.zero_le _, hR3, List.drop_zero⟩, World.grownBy.refl _ _⟩
  have HC16 := take_at 16 HS3.out HWF.out hlen (by omega) (by decide) hne hrd
  obtain ⟨T, hT16⟩ : ∃ T, tk 16 (unpack l M) false = T := ⟨_, rfl⟩
  have hVb := tk_bd 16 (unpack l M) false
  rw [hT16] at HC16 hVb
  obtain ⟨V, r0, sh0⟩ := T
  obtain ⟨K, rfl⟩ : ∃ K : Nat, V = K := ⟨V.toNat, (Int.toNat_of_nonneg hVb.1).symm⟩
  have hK : K < 65536 := by
    have h := hVb.2
    have e : (2 : Int) ^ 16 = 65536 := by decide
    rw [e] at h
    have : ((K : Int)) < 65536 := h
    omega
  obtain ⟨R, hR⟩ : ∃ R, unpI (unpack l M) = R := ⟨_, rfl⟩
  obtain ⟨outF, shF⟩ := R
  have HU := Lib.hid hR
  have HGO : Hid (goI K true 0 0 [] r0 sh0 = (outF, shF)) := Lib.hid (by rw [← hR]; unfold unpI; rw [hT16]; rfl)
  have HCC := Lib.hid HC16
  have HB3 := Lib.hid hB3
  have Q3 := Lib.hid q3
  clear HC16 hVb hR hT16 hrd hR3 q3 hB3
  go_wp2_with fail
  refine HCC.out.mono ?_
  rintro e w4 ⟨rfl, hr4, hg4⟩
  obtain ⟨base, hbase⟩ : ∃ base, w3.heap.size = base := ⟨_, rfl⟩
  have hrbb : rb < base := by omega
  have hUP : UpAt w3 rb base (.slice ao len cp) len l M r0 sh0 [] 0 (.slice none 0 0) w4 := ⟨hr4, World.ownsRow_nil _ _ _ _, rfl⟩
  have HUP := Lib.hid hUP
  have HBASE := Lib.hid hbase
  clear hr4 hg4 hUP hbase HCC
  go_upto_block 0 with fail
  go_cut [6] (fun x wx => ∃ m r, m ≤ K ∧ Hid (UpAt w3 rb base (.slice ao len cp) len l M r shF outF m x wx))
  case first =>
    go_wp2_with fail
    go_loopw [6, 7, 8, 10] (fun u a b i wx => ∃ (j f : Nat) (last step : Int) (out : List Int) (r : List Bool) (sh : Bool), j + f = K ∧ i = .int .i64 j ∧ a = .int .i64 last ∧ b = .int .i64 step ∧ Hid (goI f (decide (j = 0)) last step out r sh = (outF, shF)) ∧ Hid (UpAt w3 rb base (.slice ao len cp) len l M r sh out j u wx)) (fun _ _ _ i _ => K - (intOf i).toNat)
    case atStart => exact ⟨0, K, 0, 0, [], r0, sh0, by omega, rfl, rfl, rfl, HGO, HUP⟩
    case round =>
      obtain ⟨j, f, last, step, out, r, sh, hjf, rfl, rfl, rfl, HG, HP⟩ := hrel
      have hc3 := rat_cell HP.out.rd
      cases f with
      | zero =>
        obtain rfl : j = K := by omega
        have h1 := HG.out
        rw [goI] at h1
        have e1 : out = outF := congrArg Prod.fst h1
        have e2 : sh = shF := congrArg Prod.snd h1
        subst e1 e2
        clear h1 HG
        go_wp2_with fail
        go_meet
        exact ⟨_, _, by omega, HP⟩
      | succ f =>
        have hjK : j < K := by omega
        cases sh with
        | true =>
          have h1 := HG.out
          rw [goI, if_pos rfl] at h1
          have e1 : out = outF := congrArg Prod.fst h1
          have e2 : true = shF := congrArg Prod.snd h1
          subst e1 e2
          clear h1 HG
          go_wp2_with fail
          go_meet
          exact ⟨_, _, by omega, HP⟩
        | false =>
          have hj8 : (j + 1) * 8 ≤ 140737488355328 := by omega
          have h1 := HG.out
          rw [goI, if_neg (by simp)] at h1
          by_cases hj0 : j = 0
          · subst hj0
            rw [if_pos (by simp)] at h1
            have HC := take_at 64 HS3.out HWF.out hlen (by omega) (by decide) HNE.out HP.out.rd
            obtain ⟨T, hT⟩ : ∃ T, tk 64 r false = T := ⟨_, rfl⟩
            obtain ⟨V, r2, sh2⟩ := T
            rw [hT] at HC h1
            have HCC := Lib.hid HC
            have HG2 := Lib.hid h1
            clear HC h1 hT HG
            go_wp2_with fail
            refine HCC.out.mono ?_
            rintro e w5 ⟨rfl, hr5, hg5⟩
            have HP5 := Lib.hid (HP.out.take hr5 hg5 hrbb)
            clear hr5 hg5 HCC
            have hown := HP5.out.own
            have hsz : base ≤ w5.heap.size := by rw [← HBASE.out]; exact HP5.out.rd.gr.size
            go_wp2_with (at_builtin; refine append1 [Value.int .i64 _] elI64 rfl _ _ rfl hown (Below.refl base _) hsz rfl rfl rfl (by intro u hu; simp at hu; subst hu; rfl) ?c4 ?c5 ?_)
            case c4 => omega
            case c5 => omega
            intro v' w6 hown6 _ hg6
            have HP6 := Lib.hid (HP5.out.app hrbb (by rw [HBASE.out]; exact Nat.le_refl _) hown6 hg6)
            have HG3 : Hid (goI f (decide (0 + 1 = 0)) (wrap64 V) step (out ++ [wrap64 V]) r2 sh2 = (outF, shF)) := Lib.hid (by
              have h := HG2.out
              have e : wI V = wrap64 V := IntWalk.i64_left V
              rw [e] at h
              exact h)
            clear hown6 hg6 hown HG2
            go_wp2_with fail
            go_roundw
            case rel => exact ⟨0 + 1, f, _, _, _, r2, sh2, by omega, by go_num, rfl, rfl, HG3, HP6⟩
            case measure => simp [intOf]; omega
          · rw [if_neg (by simp [hj0])] at h1
            have hjb : ((j : Int) == 0) = false := by rw [beq_eq_false_iff_ne]; omega
            have HC := change_any HS3.out HWF.out hlen (by omega) HNE.out HP.out.rd HT3.out (by omega)
            obtain ⟨T, hT⟩ : ∃ T, chI r false = T := ⟨_, rfl⟩
            obtain ⟨V, r2, sh2⟩ := T
            rw [hT] at HC h1
            have HCC := Lib.hid HC
            obtain ⟨st2, hst2⟩ : ∃ s, wrap64 (step + V) = s := ⟨_, rfl⟩
            obtain ⟨la2, hla2⟩ : ∃ s, wrap64 (last + st2) = s := ⟨_, rfl⟩
            have HG3 : Hid (goI f (decide (j + 1 = 0)) la2 st2 (out ++ [la2]) r2 sh2 = (outF, shF)) := Lib.hid (by
              have e1 : wI (step + V) = st2 := by rw [← hst2]; exact IntWalk.i64_left _
              have e2 : wI (last + st2) = la2 := by rw [← hla2]; exact IntWalk.i64_left _
              have h : goI f false (wI (last + wI (step + V))) (wI (step + V)) (out ++ [wI (last + wI (step + V))]) r2 sh2 = (outF, shF) := h1
              rw [e1, e2] at h
              rw [show decide (j + 1 = 0) = false from by simp]
              exact h)
            clear HC h1 hT HG hj0
            go_wp2_with fail
            refine HCC.out.mono ?_
            rintro e w5 ⟨rfl, hr5, hg5⟩
            have HP5 := Lib.hid (HP.out.take hr5 hg5 hrbb)
            clear hr5 hg5 HCC
            have hown := HP5.out.own
            have hsz : base ≤ w5.heap.size := by rw [← HBASE.out]; exact HP5.out.rd.gr.size
            go_wp2_with (at_builtin; refine append1 [Value.int .i64 la2] elI64 rfl _ _ rfl hown (Below.refl base _) hsz rfl rfl rfl (by intro u hu; simp at hu; subst hu; rfl) ?c4 ?c5 ?_)
            case c4 => omega
            case c5 => omega
            intro v' w6 hown6 _ hg6
            have HP6 := Lib.hid (HP5.out.app hrbb (by rw [HBASE.out]; exact Nat.le_refl _) hown6 hg6)
            clear hown6 hg6 hown
            go_wp2_with fail
            go_roundw
            case rel => exact ⟨j + 1, f, _, _, _, r2, sh2, by omega, by go_num, rfl, rfl, HG3, HP6⟩
            case measure => simp [intOf]; omega
  case rest =>
    obtain ⟨m, r, hmK, HP⟩ := hcut
    have hgr := HP.out.rd.gr
    have hBc : Below w.heap.size w wc := Below.grown HB3.out hgr (by omega) (fun k hk => by simp at hk; omega)
    have QC := Lib.hid ((hgr.block w.heap.size (by omega) (by simp; omega)).trans Q3.out)
    have HTc := Lib.hid (HT3.out.grown hgr (by omega))
    have HSc := Lib.hid (Sl.grown HS3.out hgr HNE.out)
    have hc3 := rat_cell HP.out.rd
    have HOUT := Lib.hid (own_sl HP.out.own)
    have HLO := Lib.hid HP.out.len
    have hrbc : rb < wc.heap.size := by
      obtain ⟨⟨a, _, hi, _⟩, _⟩ := HP.out.rd
      exact (Array.getElem?_eq_some_iff.1 hi).1
    have hall : AllI outF := by have := unpI_all (unpack l M); rwa [HU.out] at this
    have HWO : Hid (∀ z ∈ outF, (Lit.int .i64 z).wf = true) := Lib.hid fun z hz => by
      have := hall z hz
      unfold I64 at this
      exact Go.WalkArith.wf_i64 ⟨this.1, by omega⟩
    obtain ⟨uo, uc, rfl, _, _, _⟩ := HOUT.out.shape
    clear hgr hall HP Q3 HT3 HS3 HBASE
    by_cases hbig : 1000 < m
    · have HNO : Hid (¬ (okB l M ∧ okI (unpack l (M : Int).toNat))) := Lib.hid fun h => by
        have h2 := h.2.2.1
        rw [Int.toNat_natCast, HU.out] at h2
        have h3 : outF.length ≤ 1000 := h2
        have := HLO.out
        omega
      have t2 : ((2 : Int) != 0) = true := by decide
      go_wp2_with fail
      refine (DeltaPacks.pack_large _ m _ _ HOUT.out hbig (by omega)).mono ?_
      rintro e w5 ⟨rfl, hb5⟩
      have hc5 := (hb5.cell (p := ⟨rb, 3, none⟩) hrbc).trans hc3
      have hrb5 := Nat.lt_of_lt_of_le hrbc hb5.size
      have hB5 := hBc.trans (hb5.mono hBc.size)
      have hB6 := hB5.alloc hB5.size (Obj.cells #[.slice none 0 0, .int .i64 0] 39)
      cases shF
      · go_wp2_with fail
        go_ret2
        exact ⟨hB6, Or.inr ⟨HNO.out, rfl⟩⟩
      · go_wp2_with fail
        go_ret2
        exact ⟨hB6, Or.inr ⟨HNO.out, rfl⟩⟩
    · have hm1 : m ≤ 1000 := by omega
      clear hbig
      obtain ⟨ts, hts⟩ : ∃ ts, tsTo outF m = ts := ⟨_, rfl⟩
      have htl : ts.length ≤ 68080 := by rw [← hts]; have := ts_len outF m; omega
      have HTS := Lib.hid hts
      have HP := pack_any _ m outF _ HOUT.out HLO.out HWO.out hm1 HTc.out
      rw [hts] at HP
      have HPK := Lib.hid HP
      obtain ⟨L, hL⟩ : ∃ L, pack ts = L := ⟨_, rfl⟩
      have HLL2 := Lib.hid hL
      clear HP hts
      by_cases hgood : shF = false ∧ ts = unpack l M
      · obtain ⟨rfl, hgd⟩ := hgood
        have HGD := Lib.hid hgd
        have hLl : L = l := by rw [← hL, hgd]; exact pack_unpack l M HBY.out HOK.out
        have htM : ts.length = M := by rw [hgd, unpack_len]
        have HYES : Hid (okB l M ∧ okI (unpack l (M : Int).toNat)) := Lib.hid ⟨HOK.out, by
          rw [Int.toNat_natCast]
          refine ⟨by rw [HU.out], by rw [HU.out]; show outF.length ≤ 1000; rw [HLO.out]; exact hm1, ?_⟩
          rw [HU.out]
          show tsTo outF outF.length = _
          rw [HLO.out, HTS.out, HGD.out]⟩
        clear hgd
        go_wp2_with fail
        refine HPK.out.mono ?_
        rintro e w5 ⟨vb, rfl, hownb, hb5⟩
        rw [hL, hLl] at hownb
        rw [htM]
        have hslb := own_sl hownb
        obtain ⟨po, pc, rfl, _, _, _⟩ := hslb.shape
        have HSLB := Lib.hid hslb
        have hc5 := (hb5.cell (p := ⟨rb, 3, none⟩) hrbc).trans hc3
        have hrb5 := Nat.lt_of_lt_of_le hrbc hb5.size
        have q5 := (hb5.block w.heap.size (by omega)).trans QC.out
        have hB5 := hBc.trans (hb5.mono hBc.size)
        clear hownb hslb hL hLl htM
        go_upto_region 17 with (fail)
        refine wp_abs (fun wx => wx.heap[w.heap.size]? = some (.cells #[.slice ao len cp, .int .i64 M] 39 (0, 0)) ∧ wx.heap[w5.heap.size]? = some (.cells #[.slice po l.length pc, .int .i64 M] 39 (0, 0)) ∧ wx.cell? ⟨rb, 3, none⟩ = some (.bool false) ∧ Below w.heap.size w wx ∧ Below wc.heap.size wc wx ∧ Below w5.heap.size w5 wx)
          ⟨(Below.heap_alloc _ _ _ (by omega)).trans q5, heap_alloc_new w5 _, ((Below.refl w5.heap.size w5).alloc (Nat.le_refl _) _ |>.cell (p := ⟨rb, 3, none⟩) hrb5).trans hc5, hB5.alloc hB5.size _, hb5.alloc hb5.size _, (Below.refl _ w5).alloc (Nat.le_refl _) _⟩ ?_
        rintro w6 ⟨q6, p6, c6, hB6, hb6, hb56⟩
        obtain ⟨⟨x0, x1⟩, -⟩ := box2 q6
        obtain ⟨⟨y0, y1⟩, -⟩ := box2 p6
        have t1 : ((M : Int) != (M : Int)) = false := by simp
        have HE := eqb_any _ _ l.length len l l w6 (HSLB.out.below hb56) (HSc.out.below hb6) rfl HLL.out
        rw [show decide (l = l) = true from by simp] at HE
        have HEQ := Lib.hid HE
        clear HE
        go_wp2_with fail
        refine HEQ.out.mono ?_
        rintro e w7 ⟨rfl, hb7⟩
        go_wp2_with fail
        go_ret2
        exact ⟨hB6.trans (hb7.mono hB6.size), Or.inl ⟨HYES.out.1, HYES.out.2, _, m, rfl, by rw [Int.toNat_natCast, HU.out]; exact (HOUT.out.below hb6).below hb7, by rw [Int.toNat_natCast, HU.out]; exact HLO.out⟩⟩
      · have HNO : Hid (¬ (okB l M ∧ okI (unpack l (M : Int).toNat))) := Lib.hid fun h => by
          obtain ⟨_, h1, h2, h3⟩ := h
          rw [Int.toNat_natCast, HU.out] at h1 h2 h3
          refine hgood ⟨h1, ?_⟩
          have h4 : tsTo outF outF.length = unpack l M := h3
          rw [HLO.out, HTS.out] at h4
          exact h4
        go_wp2_with fail
        refine HPK.out.mono ?_
        rintro e w5 ⟨vb, rfl, hownb, hb5⟩
        have hLb : L.length ≤ 9000 := by rw [← hL, pack_len]; omega
        rw [hL] at hownb
        have hslb := own_sl hownb
        obtain ⟨po, pc, rfl, _, _, _⟩ := hslb.shape
        have HSLB := Lib.hid hslb
        have hc5 := (hb5.cell (p := ⟨rb, 3, none⟩) hrbc).trans hc3
        have hrb5 := Nat.lt_of_lt_of_le hrbc hb5.size
        have q5 := (hb5.block w.heap.size (by omega)).trans QC.out
        have hB5 := hBc.trans (hb5.mono hBc.size)
        clear hownb hslb
        obtain ⟨M2, hM2⟩ : ∃ M2, ts.length = M2 := ⟨_, rfl⟩
        have HM2 := Lib.hid hM2
        rw [hM2]
        clear hM2
        go_upto_region 17 with (fail)
        refine wp_abs (fun wx => wx.heap[w.heap.size]? = some (.cells #[.slice ao len cp, .int .i64 M] 39 (0, 0)) ∧ wx.heap[w5.heap.size]? = some (.cells #[.slice po L.length pc, .int .i64 M2] 39 (0, 0)) ∧ wx.cell? ⟨rb, 3, none⟩ = some (.bool shF) ∧ Below w.heap.size w wx ∧ Below wc.heap.size wc wx ∧ Below w5.heap.size w5 wx)
          ⟨(Below.heap_alloc _ _ _ (by omega)).trans q5, heap_alloc_new w5 _, ((Below.refl w5.heap.size w5).alloc (Nat.le_refl _) _ |>.cell (p := ⟨rb, 3, none⟩) hrb5).trans hc5, hB5.alloc hB5.size _, hb5.alloc hb5.size _, (Below.refl _ w5).alloc (Nat.le_refl _) _⟩ ?_
        rintro w6 ⟨q6, p6, c6, hB6, hb6, hb56⟩
        obtain ⟨⟨x0, x1⟩, -⟩ := box2 q6
        obtain ⟨⟨y0, y1⟩, -⟩ := box2 p6
        cases shF with
        | true =>
          go_wp2_with fail
          go_ret2
          exact ⟨hB6, Or.inr ⟨HNO.out, rfl⟩⟩
        | false =>
          by_cases hMM : M2 = M
          · subst hMM
            have hne : ¬ L = l := fun h => hgood ⟨rfl, by
              have h5 := unpack_pack ts
              rw [hL, h, HM2.out] at h5
              exact h5.symm⟩
            have t1 : ((M2 : Int) != (M2 : Int)) = false := by simp
            have HE := eqb_any _ _ L.length len L l w6 (HSLB.out.below hb56) (HSc.out.below hb6) rfl HLL.out
            rw [decide_eq_false hne] at HE
            have HEQ := Lib.hid HE
            clear HE hne hgood
            go_wp2_with fail
            refine HEQ.out.mono ?_
            rintro e w7 ⟨rfl, hb7⟩
            go_wp2_with fail
            go_ret2
            exact ⟨hB6.trans (hb7.mono hB6.size), Or.inr ⟨HNO.out, rfl⟩⟩
          · have t1 : ((M2 : Int) != (M : Int)) = true := by rw [bne_iff_ne]; omega
            clear hMM hgood
            go_wp2_with fail
            go_ret2
            exact ⟨hB6, Or.inr ⟨HNO.out, rfl⟩⟩
end Go.Proofs.YtbifhmbfmoeofaaDoor.Delta
/-
  The walk of xor.turn; slices.Equal at []uint64.
-/
namespace Go.Proofs.YtbifhmbfmoeofaaDoor.Xor
open Go.RowKit Go.Gh Go.Proofs.YtbifhmbfmoeofaaDoor.Bits Go.Proofs.YtbifhmbfmoeofaaDoor.Delta
set_option linter.unusedVariables false
/-- Of the old blocks at most two have changed. -/
def Two (w w' : World) (a b : Nat) : Prop := w.heap.size ≤ w'.heap.size ∧ ∀ k, k < w.heap.size → k ≠ a → k ≠ b → w'.heap[k]? = w.heap[k]?
theorem Two.refl (w : World) (a b : Nat) : Two w w a b := ⟨Nat.le_refl _, fun _ _ _ _ => rfl⟩
theorem Two.trans {w w1 w2 : World} {a b : Nat} (h : Two w w1 a b) (k : Two w1 w2 a b) : Two w w2 a b := ⟨Nat.le_trans h.1 k.1, fun i hi h1 h2 => (k.2 i (Nat.lt_of_lt_of_le hi h.1) h1 h2).trans (h.2 i hi h1 h2)⟩
theorem Two.one {w w' : World} {a b : Nat} (h : w.grownBy w' (some a)) : Two w w' a b := ⟨h.size, fun k hk h1 _ => h.block k hk (by simp; omega)⟩
theorem Two.two {w w' : World} {a b : Nat} (h : w.grownBy w' (some b)) : Two w w' a b := ⟨h.size, fun k hk _ h2 => h.block k hk (by simp; omega)⟩
theorem Two.own {w w' : World} {a b B : Nat} {e : TypeId} {size n : Nat} {v : Value} {xs : List Value} (h : Two w w' a b) (ho : w.ownsRow B e size v n xs) (ha : a < B) (hb : b < B) : w'.ownsRow B e size v n xs := by
  obtain ⟨h1, h2⟩ := ho
  refine ⟨h1, ?_⟩
  rcases h2 with h2 | ⟨g, cap, cur, ha', hb', hc, hd⟩
  · exact Or.inl h2
  · exact Or.inr ⟨g, cap, cur, ha', hb', (h.2 g (Array.getElem?_eq_some_iff.1 hc).1 (by omega) (by omega)).trans hc, hd⟩
/-- A reader and a window that stand at s. -/
structure WdAt (w : World) (rb wb : Nat) (bs : Value) (len : Nat) (l : List Int) (N : Nat) (s : Rd) (wx : World) : Prop where
  rd : RAt w rb bs len l N s.r s.sh wx
  win : wx.heap[wb]? = some (.cells #[.bool s.is, .int .i64 s.ld, .int .i64 s.tl] 83 (0, 0))
def WB (s : Rd) : Prop := 0 ≤ s.ld ∧ s.ld ≤ 63 ∧ 0 ≤ 64 - s.ld - s.tl ∧ 64 - s.ld - s.tl ≤ 64
theorem WdAt.take {w wx wy : World} {rb wb : Nat} {bs : Value} {len : Nat} {l : List Int} {N : Nat} {s : Rd} {r : List Bool} {sh : Bool} (h : WdAt w rb wb bs len l N s wx) (hne : rb ≠ wb) (hr : RAt w rb bs len l N r sh wy) (hg : wx.grownBy wy (some rb)) : WdAt w rb wb bs len l N { s with r := r, sh := sh } wy :=
  ⟨hr, (hg.block wb (Array.getElem?_eq_some_iff.1 h.win).1 (by simp; omega)).trans h.win⟩
theorem rat_short {w wx : World} {rb : Nat} {bs : Value} {len : Nat} {l : List Int} {N : Nat} {r : List Bool} {sh : Bool} (h : RAt w rb bs len l N r sh wx) : RAt w rb bs len l N r true (wx.setCell ⟨rb, 3, none⟩ (.bool true)) ∧ wx.frozen? ⟨rb, 3, none⟩ = false := by
  obtain ⟨⟨a, ha, hi, hr⟩, hg⟩ := h
  exact ⟨⟨⟨a, ha, row_setCell 3 (.bool true) hi, hr⟩, grown_setCell hg _ _⟩, frozen_of_row wx rb 3 _ _ hi⟩
theorem rat_past {w wx wy : World} {rb g : Nat} {bs : Value} {len : Nat} {l : List Int} {N : Nat} {r : List Bool} {sh : Bool} (h : RAt w rb bs len l N r sh wx) (hg : wx.grownBy wy (some g)) (h1 : rb ≠ g) (h2 : w.heap.size ≤ g) : RAt w rb bs len l N r sh wy := by
  obtain ⟨⟨a, ha, hi, hr⟩, hgr⟩ := h
  exact ⟨⟨a, ha, grown_block2 hg (by simp; omega) hi, hr⟩, grown_past hgr hg (fun k hk => by simp at hk; omega)⟩
theorem rat_below {w wx wy : World} {rb : Nat} {bs : Value} {len : Nat} {l : List Int} {N : Nat} {r : List Bool} {sh : Bool} (h : RAt w rb bs len l N r sh wx) (hb : Below wx.heap.size wx wy) : RAt w rb bs len l N r sh wy := by
  obtain ⟨⟨a, ha, hi, hr⟩, hgr⟩ := h
  exact ⟨⟨a, ha, (hb.block rb (Array.getElem?_eq_some_iff.1 hi).1).trans hi, hr⟩, ⟨hb.os.trans hgr.os, hb.tape.trans hgr.tape, hb.output.trans hgr.output, Nat.le_trans hgr.size hb.size, fun k hk hn => (hb.block k (Nat.lt_of_lt_of_le hk hgr.size)).trans (hgr.block k hk hn)⟩⟩
theorem WdAt.below {w wx wy : World} {rb wb : Nat} {bs : Value} {len : Nat} {l : List Int} {N : Nat} {s : Rd} (h : WdAt w rb wb bs len l N s wx) (hb : Below wx.heap.size wx wy) : WdAt w rb wb bs len l N s wy :=
  ⟨rat_below h.rd hb, (hb.block wb (Array.getElem?_eq_some_iff.1 h.win).1).trans h.win⟩
theorem WdAt.win3 {w wx : World} {rb wb : Nat} {bs : Value} {len : Nat} {l : List Int} {N : Nat} {s : Rd} (h : WdAt w rb wb bs len l N s wx) (hne : rb ≠ wb) (hw : w.heap.size ≤ wb) (is : Bool) (ld tl : Int) :
    WdAt w rb wb bs len l N { s with is := is, ld := ld, tl := tl } (((wx.setCell ⟨wb, 0, none⟩ (.bool is)).setCell ⟨wb, 1, none⟩ (.int .i64 ld)).setCell ⟨wb, 2, none⟩ (.int .i64 tl)) := by
  have hg : wx.grownBy (((wx.setCell ⟨wb, 0, none⟩ (.bool is)).setCell ⟨wb, 1, none⟩ (.int .i64 ld)).setCell ⟨wb, 2, none⟩ (.int .i64 tl)) (some wb) := grown_setCell (grown_setCell (grown_setCell (World.grownBy.refl _ _) _ _) _ _) _ _
  exact ⟨rat_past h.rd hg hne hw, box3_store _ _ _ h.win⟩
theorem two_win (wx : World) (rb wb : Nat) (is : Bool) (ld tl : Int) : Two wx (((wx.setCell ⟨wb, 0, none⟩ (.bool is)).setCell ⟨wb, 1, none⟩ (.int .i64 ld)).setCell ⟨wb, 2, none⟩ (.int .i64 tl)) rb wb :=
  Two.two (grown_setCell (grown_setCell (grown_setCell (World.grownBy.refl _ _) _ _) _ _) _ _)
theorem tk_one01 (r : List Bool) (sh : Bool) : (tk 1 r sh).1 = 0 ∨ (tk 1 r sh).1 = 1 := by
  have h := tk_bd 1 r sh
  have e : (2 : Int) ^ 1 = 2 := by decide
  rw [e] at h
  omega
set_option maxHeartbeats 8000000 in
set_option maxRecDepth 100000 in
theorem turn_any {w wr : World} {bs : Value} {len : Nat} {l : List Int} {N rb wb : Nat} {s : Rd} (hs : Sl w 1 bs len (l.map (Value.int .u8))) (hl : ∀ z ∈ l, (Lit.int .u8 z).wf = true) (hlen : len ≤ 140737488355328) (hN : N ≤ 8 * len) (hne : 0 < len → bs.ownBlock ≠ some rb) (h : WdAt w rb wb bs len l N s wr) (hB : WB s) (hrw : rb ≠ wb) (hww : w.heap.size ≤ wb) :
    Calls Tryd.prog 50 #[.pointer (some ⟨rb, 0, none⟩), .pointer (some ⟨wb, 0, none⟩)] wr fun e w' => e = .returned (.int .u64 (tnI s).1) ∧ WdAt w rb wb bs len l N (tnI s).2 w' ∧ WB (tnI s).2 ∧ Two wr w' rb wb := by
  have HS := Lib.hid hs
  have HLF := Lib.hid hl
  have HNE := Lib.hid hne
  have H := Lib.hid h
  have HB := Lib.hid hB
  have hA := take_at 1 hs hl hlen hN (by decide) hne h.rd
  have h01 := tk_one01 s.r s.sh
  obtain ⟨T, hT⟩ : ∃ T, tk 1 s.r s.sh = T := ⟨_, rfl⟩
  obtain ⟨V, r1, sh1⟩ := T
  rw [hT] at hA h01
  have HA := Lib.hid hA
  clear hs hl hne h hB hA
  go_enter Tryd.func50, Tryd.ntmps50
  go_wp2_with fail
  refine HA.out.mono ?_
  rintro e w1 ⟨rfl, hr1, hg1⟩
  have HW1 := Lib.hid (H.out.take hrw hr1 hg1)
  have HT1 : Hid (Two wr w1 rb wb) := Lib.hid (Two.one hg1)
  clear hr1 hg1 HA
  by_cases hV : V = 0
  · have HR : Hid (tnI s = (0, { s with r := r1, sh := sh1 })) := Lib.hid (by unfold tnI; rw [hT, if_pos hV])
    subst hV
    clear hT
    go_wp2_with fail
    go_ret
    rw [HR.out]
    exact ⟨rfl, HW1.out, HB.out, HT1.out⟩
  have hV1 : V = 1 := by
    rcases h01 with h | h
    · exact absurd h hV
    · exact h
  subst hV1
  have HTN : Hid (tnI s = if (tk 1 r1 sh1).1 = 1 then finI (opnI (tk 1 r1 sh1).2.1 (tk 1 r1 sh1).2.2) else finI { s with r := (tk 1 r1 sh1).2.1, sh := (tk 1 r1 sh1).2.2 }) := Lib.hid (by unfold tnI; rw [hT]; simp only [if_neg hV])
  clear hT h01 hV
  have hA := take_at 1 HS.out HLF.out hlen hN (by decide) HNE.out HW1.out.rd
  have h01 := tk_one01 r1 sh1
  obtain ⟨T, hT⟩ : ∃ T, tk 1 r1 sh1 = T := ⟨_, rfl⟩
  obtain ⟨V, r2, sh2⟩ := T
  have hA' : Calls Tryd.prog 45 #[.pointer (some ⟨rb, 0, none⟩), .int .i64 (1 : Nat)] w1 fun e w' => e = .returned (.int .u64 V) ∧ RAt w rb bs len l N r2 sh2 w' ∧ w1.grownBy w' (some rb) := by rw [hT] at hA; exact hA
  rw [hT] at h01
  have HA := Lib.hid hA'
  rw [hT] at HTN
  clear hA hA' hT
  go_wp2_with fail
  refine HA.out.mono ?_
  rintro e w2 ⟨rfl, hr2, hg2⟩
  have HW2 : Hid (WdAt w rb wb bs len l N { s with r := r2, sh := sh2 } w2) := Lib.hid (HW1.out.take hrw hr2 hg2)
  have HT2 : Hid (Two wr w2 rb wb) := Lib.hid (HT1.out.trans (Two.one hg2))
  clear hr2 hg2 HA HW1 HT1
  go_upto_if 12 with (fail)
  go_cut [] (fun wx => ∃ s2, Hid (tnI s = finI s2) ∧ Hid (WdAt w rb wb bs len l N s2 wx) ∧ Hid (WB s2) ∧ Hid (Two wr wx rb wb))
  case first =>
    by_cases hV : V = 1
    · subst hV
      have HR0 : Hid (tnI s = finI (opnI r2 sh2)) := Lib.hid (by rw [HTN.out, if_pos rfl])
      have hA := take_at 6 HS.out HLF.out hlen hN (by decide) HNE.out HW2.out.rd
      have hbA := tk_bd 6 r2 sh2
      obtain ⟨T, hT⟩ : ∃ T, tk 6 r2 sh2 = T := ⟨_, rfl⟩
      obtain ⟨A, r3, sh3⟩ := T
      have hA' : Calls Tryd.prog 45 #[.pointer (some ⟨rb, 0, none⟩), .int .i64 (6 : Nat)] w2 fun e w' => e = .returned (.int .u64 A) ∧ RAt w rb bs len l N r3 sh3 w' ∧ w2.grownBy w' (some rb) := by rw [hT] at hA; exact hA
      have HA := Lib.hid hA'
      have hA2 : 0 ≤ A ∧ A < 64 := by
        have e : (2 : Int) ^ 6 = 64 := by decide
        rw [hT, e] at hbA
        exact hbA
      obtain ⟨T2, hT2⟩ : ∃ T, tk 6 r3 sh3 = T := ⟨_, rfl⟩
      have hbB := tk_bd 6 r3 sh3
      obtain ⟨B, r4, sh4⟩ := T2
      have hB2 : 0 ≤ B ∧ B < 64 := by
        have e : (2 : Int) ^ 6 = 64 := by decide
        rw [hT2, e] at hbB
        exact hbB
      have HOP : Hid (opnI r2 sh2 = { r := r4, sh := sh4, is := true, ld := A, tl := 64 - A - (B + 1) }) := Lib.hid (by unfold opnI; rw [hT]; simp only; rw [hT2])
      have HT22 := Lib.hid hT2
      clear hA hA' hbA hbB hT hT2
      go_wp2_with fail
      refine HA.out.mono ?_
      rintro e w3 ⟨rfl, hr3, hg3⟩
      have HW3 : Hid (WdAt w rb wb bs len l N { s with r := r3, sh := sh3 } w3) := Lib.hid (HW2.out.take hrw hr3 hg3)
      have HT3 : Hid (Two wr w3 rb wb) := Lib.hid (HT2.out.trans (Two.one hg3))
      clear hr3 hg3 HA HW2 HT2
      have hA := take_at 6 HS.out HLF.out hlen hN (by decide) HNE.out HW3.out.rd
      have hA' : Calls Tryd.prog 45 #[.pointer (some ⟨rb, 0, none⟩), .int .i64 (6 : Nat)] w3 fun e w' => e = .returned (.int .u64 B) ∧ RAt w rb bs len l N r4 sh4 w' ∧ w3.grownBy w' (some rb) := by
        have h2 : Calls Tryd.prog 45 #[.pointer (some ⟨rb, 0, none⟩), .int .i64 (6 : Nat)] w3 fun e w' => e = .returned (.int .u64 (tk 6 r3 sh3).1) ∧ RAt w rb bs len l N (tk 6 r3 sh3).2.1 (tk 6 r3 sh3).2.2 w' ∧ w3.grownBy w' (some rb) := hA
        rw [HT22.out] at h2
        exact h2
      have HA := Lib.hid hA'
      clear hA hA'
      go_wp2_with fail
      refine HA.out.mono ?_
      rintro e w4 ⟨rfl, hr4, hg4⟩
      have HW4 : Hid (WdAt w rb wb bs len l N { s with r := r4, sh := sh4 } w4) := Lib.hid (HW3.out.take hrw hr4 hg4)
      have HT4 : Hid (Two wr w4 rb wb) := Lib.hid (HT3.out.trans (Two.one hg4))
      clear hr4 hg4 HA HW3 HT3
      obtain ⟨z0, z1, z2⟩ := frozen3 HW4.out.win
      obtain ⟨y0, y1, y2⟩ := cells3 HW4.out.win
      have HW5 := Lib.hid (HW4.out.win3 hrw hww true A (64 - A - (B + 1)))
      have HT5 := Lib.hid (HT4.out.trans (two_win w4 rb wb true A (64 - A - (B + 1))))
      go_wp2_with fail
      go_meet
      exact ⟨{ r := r4, sh := sh4, is := true, ld := A, tl := 64 - A - (B + 1) }, Lib.hid (by rw [HR0.out, HOP.out]), HW5, Lib.hid ⟨by simp only; omega, by simp only; omega, by simp only; omega, by simp only; omega⟩, HT5⟩
    · have t1 : (V == 1) = false := beq_eq_false_iff_ne.2 hV
      have HR : Hid (tnI s = finI { s with r := r2, sh := sh2 }) := Lib.hid (by rw [HTN.out, if_neg hV])
      clear hV
      go_wp2_with fail
      go_meet
      exact ⟨_, HR, HW2, HB, HT2⟩
  obtain ⟨s2, HR, HW, HB2, HT⟩ := hcut
  obtain ⟨z0, z1, z2⟩ := frozen3 HW.out.win
  obtain ⟨y0, y1, y2⟩ := cells3 HW.out.win
  obtain ⟨hr3, hf3⟩ := rat_short HW.out.rd
  have HR3 := Lib.hid hr3
  have hc3 := rat_cell HW.out.rd
  clear hr3
  by_cases hbad : s2.is = false ∨ s2.tl < 0
  · have HF : Hid (finI s2 = (0, { s2 with sh := true })) := Lib.hid (by unfold finI; rw [if_pos hbad])
    have HW5 : Hid (WdAt w rb wb bs len l N { s2 with sh := true } (wc.setCell ⟨rb, 3, none⟩ (.bool true))) := Lib.hid ⟨HR3.out, row_setCell_other _ HW.out.win hrw.symm⟩
    have HT5 : Hid (Two wr (wc.setCell ⟨rb, 3, none⟩ (.bool true)) rb wb) := Lib.hid (HT.out.trans (Two.one (grown_setCell (World.grownBy.refl _ _) _ _)))
    by_cases his : s2.is = false
    · rw [his] at y0
      clear hbad
      go_wp2_with fail
      go_ret
      rw [HR.out, HF.out]
      exact ⟨rfl, HW5.out, HB2.out, HT5.out⟩
    · have hist : s2.is = true := by simpa using his
      rw [hist] at y0
      have htl : s2.tl < 0 := by
        rcases hbad with h | h
        · exact absurd h his
        · exact h
      clear hbad his
      go_wp2_with fail
      go_ret
      rw [HR.out, HF.out]
      exact ⟨rfl, HW5.out, HB2.out, HT5.out⟩
  · have hist : s2.is = true := by
      rcases hi : s2.is with _ | _
      · exact absurd (Or.inl hi) hbad
      · rfl
    have htl : 0 ≤ s2.tl := by
      have := not_or.1 hbad
      omega
    obtain ⟨hb1, hb2, hb3, hb4⟩ := HB2.out
    obtain ⟨r, sh, is, ld, tl⟩ := s2
    simp only at hist htl hb1 hb2 hb3 hb4 y0 y1 y2
    subst hist
    obtain ⟨n, hn⟩ : ∃ n : Nat, 64 - ld - tl = n := ⟨(64 - ld - tl).toNat, by omega⟩
    obtain ⟨tn, rfl⟩ : ∃ n : Nat, tl = n := ⟨tl.toNat, by omega⟩
    have HF : Hid (finI { r := r, sh := sh, is := true, ld := ld, tl := tn } = (wU ((tk n r sh).1 * 2 ^ tn), { r := (tk n r sh).2.1, sh := (tk n r sh).2.2, is := true, ld := ld, tl := tn })) := Lib.hid (by
      unfold finI
      rw [if_neg hbad]
      simp only [hn, Int.toNat_natCast])
    clear hbad
    go_upto_region 10 with (fail)
    have hdr : Below wc.heap.size wc wc.drew := (Below.refl _ _).drew
    go_region_held3 (fun w' => w'.cell? ⟨wb, 0, none⟩ = some (.bool true) ∧ w'.cell? ⟨wb, 1, none⟩ = some (.int .i64 ld) ∧ w'.cell? ⟨wb, 2, none⟩ = some (.int .i64 tn)) (first | (with_reducible exact ⟨y0, y1, y2⟩) | (with_reducible exact ⟨a0, a1, a2⟩) | (with_reducible exact ⟨b0, b1, b2⟩) | go_keep) (first
      | (go_at_call 41; refine (size_any true ld tn (by omega) _).mono ?_; rintro e w5 ⟨rfl, hb5⟩; have hb25 : Below wc.heap.size wc w5 := hdr.trans (hb5.mono (Nat.le_refl wc.heap.size)); have HW5 := Lib.hid (HW.out.below hb25); obtain ⟨a0, a1, a2⟩ := cells3 HW5.out.win)
      | (go_at_call 45; refine (take_at n HS.out HLF.out hlen hN (by omega) HNE.out HW5.out.rd).mono ?_; rintro e w6 ⟨rfl, hr6, hg6⟩; have HW6 := Lib.hid (HW5.out.take hrw hr6 hg6); have hT6 : Two wr w6 rb wb := HT.out.trans (Two.trans ⟨hb25.size, fun k hk _ _ => hb25.block k hk⟩ (Two.one hg6)); obtain ⟨b0, b1, b2⟩ := cells3 HW6.out.win))
    all_goals
      go_wp2_with fail
      go_ret
      rw [HR.out, HF.out]
      exact ⟨rfl, HW6.out, HB2.out, hT6⟩
end Go.Proofs.YtbifhmbfmoeofaaDoor.Xor
/-
  The walk of the law XorPacks.
-/
namespace Go.Proofs.YtbifhmbfmoeofaaDoor.XorPacks
open Go.RowKit Go.Gh Go.Proofs.YtbifhmbfmoeofaaDoor.Bits Go.Proofs.YtbifhmbfmoeofaaDoor.Delta Go.Proofs.YtbifhmbfmoeofaaDoor.Xor
set_option linter.unusedVariables false

theorem pack_large (v : Value) (n : Nat) (xs : List Value) (w : World) (hs : Sl w 1 v n xs) (hn : 1000 < n) (hn' : n ≤ 140737488355328) :
    Calls Tryd.prog 21 #[v] w fun e w' => e = .returned (.tuple #[.agg #[.slice none 0 0, .int .i64 0], .int .i64 2]) ∧ Below w.heap.size w w' := by
  obtain ⟨ao, c, rfl, hnc, hc, _⟩ := hs.shape
  go_enter Tryd.func21, Tryd.ntmps21
  go_wp2_with fail
  have hA0 := heap_alloc_new w (Obj.cells #[.slice none 0 0, .int .i64 0] 39)
  obtain ⟨⟨r0, r1⟩, -⟩ := box2 hA0
  refine bodyPost_ret (v := .tuple #[.agg #[.slice none 0 0, .int .i64 0], .int .i64 2]) (by simp [results, Tryd.results21, go_sem, r0, r1]) rfl ?_
  exact ⟨rfl, (Below.refl _ w).alloc (Nat.le_refl _) _⟩

set_option maxRecDepth 100000 in
set_option maxHeartbeats 4000000 in
theorem walk (v : Value) (w : World) (h : IsInts .u64 w v) (hT : Xor.TabX w) (hT2 : 2 ≤ w.heap.size) :
    Calls Tryd.prog 6 #[v] w fun e w' => e = .returned (.bool true) ∧ Below w.heap.size w w' := by
  obtain ⟨n, l, hs, hwf, hn⟩ := h
  obtain ⟨ao, c, rfl, hnc, hc, hlen⟩ := hs.shape
  have hl : l.length = n := by simpa using hlen
  have HWF := Lib.hid hwf
  have HL := Lib.hid hl
  clear hwf hl hlen
  go_enter Tryd.func6, Tryd.ntmps6
  by_cases hbig : 1000 < n
  · go_wp2_with fail
    refine (pack_large _ n _ _ hs hbig hn).mono ?_
    rintro e w1 ⟨rfl, hb1⟩
    have hb2 := hb1.alloc hb1.size (Obj.cells #[.slice none 0 0, .int .i64 0] 39)
    have hx := heap_alloc_new w1 (Obj.cells #[.slice none 0 0, .int .i64 0] 39)
    obtain ⟨⟨r0, r1⟩, -⟩ := box2 hx
    clear hx
    go_wp2_with fail
    refine (samebits_any _ _ [] [] 0 0 _ (bv_zero _) (bv_zero _)).mono ?_
    rintro e w3 ⟨rfl, hb3⟩
    rw [sameB_one]
    have hb4 := hb2.trans (hb3.mono hb2.size)
    clear hb1 hb2 hb3 r0 r1
    go_wp2_with fail
    go_ret
    exact ⟨rfl, hb4⟩
  · have hn1 : n ≤ 1000 := by omega
    clear hbig
    go_wp2_with fail
    refine (Xor.pack_any _ n l _ hs HL.out HWF.out hn1 hT hT2).mono ?_
    rintro e w1 ⟨y, rfl, hown, hb1⟩
    obtain ⟨ay, cy, rfl, _, _, _⟩ := (own_sl hown).shape
    have hpl : (pack ((msTo l n).1)).length ≤ 9900 := by have := ms_len l n; rw [pack_len]; omega
    have htl : ((msTo l n).1).length ≤ 78080 := by have := ms_len l n; omega
    have hy := bv_own (N := (((msTo l n).1).length : Int)) hown (pack_bytes _) (by omega) (by omega) (by omega)
    obtain ⟨L, hL⟩ : ∃ L, pack ((msTo l n).1) = L := ⟨_, rfl⟩
    obtain ⟨N, hN⟩ : ∃ N : Int, (((msTo l n).1).length : Int) = N := ⟨_, rfl⟩
    have HLL := Lib.hid hL
    have HNN := Lib.hid hN
    have HTL := Lib.hid htl
    rw [hL, hN] at hy
    rw [hL, hN]
    rw [hL] at hpl
    clear hown hL hN htl
    go_upto_region 2 with (fail)
    refine wp_abs (fun w2 => BitsV w2 (.agg #[.slice ay L.length cy, .int .i64 N]) L N ∧ Sl w2 1 (.slice ao n c) n (l.map (Value.int .u64)) ∧ w2.heap[w1.heap.size]? = some (.cells #[.slice ay L.length cy, .int .i64 N] 39 (0, 0)) ∧ Below w.heap.size w w2 ∧ w1.heap.size + 1 ≤ w2.heap.size)
        ⟨bv_below hy ((Below.refl _ _).alloc (Nat.le_refl _) _), hs.below (hb1.alloc hb1.size _), heap_alloc_new w1 _, hb1.alloc hb1.size _, by simp⟩ ?_
    clear hy hs
    rintro w2 ⟨hy, hs, hb, hbel, hsz⟩
    obtain ⟨⟨r0, r1⟩, -⟩ := box2 hb
    clear hb hb1
    have hd : decide (1000 < (n : Int)) = false := decide_eq_false (by omega)
    by_cases h60 : 60 < n
    · have hd2 : decide (60 < (n : Int)) = true := decide_eq_true (by omega)
      go_upto_region 4 with (fail)
      go_quiet (fail)
      go_wp2_with fail
      go_ret
      exact ⟨rfl, below_drewN hbel _⟩
    · have hz : w1.heap.size < w2.heap.size := by omega
      have hd2 : decide (60 < (n : Int)) = false := decide_eq_false (by omega)
      have hz2 := hbel.size
      go_upto_region 4 with (fail)
      go_region_law (first
        | (go_simp; go_at_call 22; refine (measuresigns_any _ n l _ (hs.below (Below.refl _ _).drew) HL.out HWF.out hn1).mono ?_; rintro e wu ⟨rfl, hbu⟩; have hBu : Below w2.heap.size w2 wu := ((Below.refl _ _).drew).trans hbu; have yu0 := (hBu.cell (p := ⟨w1.heap.size, 0, none⟩) hz).trans r0; have yu1 := (hBu.cell (p := ⟨w1.heap.size, 1, none⟩) hz).trans r1)
        | (go_simp; go_at_call 19; refine (packed_any _ (by have := HTL.out; omega) _).mono ?_; rintro e wp ⟨pb, rfl, hownp, hbp⟩; have hyp := bv_own (N := (((msTo l n).1).length : Int)) hownp (pack_bytes _) (by rw [HLL.out]; omega) (by have := HTL.out; omega) (by have := HTL.out; omega); rw [HLL.out, HNN.out] at hyp; rw [HNN.out]; have hBp : Below w2.heap.size w2 wp := hBu.trans (hbp.mono hBu.size); have yp0 := (hBp.cell (p := ⟨w1.heap.size, 0, none⟩) hz).trans r0; have yp1 := (hBp.cell (p := ⟨w1.heap.size, 1, none⟩) hz).trans r1)
        | (go_simp; go_at_call 18; refine (samebits_any _ _ L L _ _ _ (bv_below hy hBp) hyp).mono ?_; rintro e wq ⟨rfl, hbq⟩; rw [sameB_one]; have hBq : Below w2.heap.size w2 wq := hBp.trans (hbq.mono hBp.size)))
      all_goals (go_wp2_with fail; go_ret; exact ⟨rfl, hbel.trans (hBq.mono hz2)⟩)
end Go.Proofs.YtbifhmbfmoeofaaDoor.XorPacks
