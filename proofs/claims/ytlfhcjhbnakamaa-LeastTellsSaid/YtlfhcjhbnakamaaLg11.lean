/-
  Sieves: the walk of Sieved (PRINTED by mklt4.py).
-/
import Derived.Test.YtlfhcjhbnakamaaLg1
import Derived.Test.YtlfhcjhbnakamaaLg10
import Derived.Lib.SmallJoins
namespace Go.Proofs.Ytlfhcjhbnakamaa.Lst
open Go.RowKit Go.Gh Go.Proofs.Ytlfhcjhbnakamaa.Qs
set_option linter.unusedVariables false
set_option linter.unusedSimpArgs false
/-- While a sieve is made: the boxes and the row out. -/
structure SvAt (w : World) (bs b4 b5 : Nat) (K : Int) (ts : Value) (A : List Int) (ro : Option Addr) (rc : Nat) (wr : World) : Prop where
  own : wr.ownsRow w.heap.size 22 1 (.slice ro A.length rc) A.length (A.map (Value.int .u64))
  b5 : wr.heap[b5]? = some (.cells #[.int .i64 K, .slice ro A.length rc] 46 (0, 0))
  b4 : wr.heap[b4]? = some (.cells #[.int .i64 0, .slice none 0 0] 46 (0, 0))
  bs : wr.heap[bs]? = some (.cells #[.int .i64 K, ts] 46 (0, 0))
  bel : Below w.heap.size w wr
theorem SvAt.put {w wr w5 : World} {bs b4 b5 : Nat} {K : Int} {ts : Value} {A : List Int} {ro ro' : Option Addr} {rc rc' : Nat} {x : Int} (h : SvAt w bs b4 b5 K ts A ro rc wr) (n4 : b4 ≠ b5) (ns : bs ≠ b5) (hB : w.heap.size ≤ b5)
    (hown : w5.ownsRow w.heap.size 22 1 (.slice ro' (A.length + 1) rc') (A.length + 1) (A.map (Value.int .u64) ++ [.int .u64 x])) (hbel : Below w.heap.size w w5) (hg : wr.grownBy w5 (Value.slice ro A.length rc).ownBlock) :
    (w5.cell? ⟨b5, 1, none⟩ = some (.slice ro A.length rc) ∧ w5.frozen? ⟨b5, 1, none⟩ = false) ∧ SvAt w bs b4 b5 K ts (A ++ [x]) ro' rc' (w5.setCell ⟨b5, 1, none⟩ (.slice ro' (A.length + 1) rc')) := by
  have hn5 := own_block_ne h.own h.b5 (by decide)
  have hn4 := own_block_ne h.own h.b4 (by decide)
  have hns := own_block_ne h.own h.bs (by decide)
  have g5 := grown_block2 hg hn5 h.b5
  have g4 := grown_block2 hg hn4 h.b4
  have gs := grown_block2 hg hns h.bs
  have hx := row_cell 1 _ g5 rfl
  have hl : (A ++ [x]).length = A.length + 1 := by simp
  refine ⟨hx, ⟨?_, ?_, ?_, ?_, ?_⟩⟩
  · rw [hl]
    have := ownsRow_setCell_other hown (a := ⟨b5, 1, none⟩) (own_block_ne hown g5 (by decide)) (.slice ro' (A.length + 1) rc')
    simpa using this
  · rw [hl]
    exact row_setCell 1 _ g5
  · exact row_setCell_other _ g4 n4
  · exact row_setCell_other _ gs ns
  · exact hbel.setCell (p := ⟨b5, 1, none⟩) hB _
theorem bx2_store {w : World} {B : Nat} {T : TypeId} {a b c d : Value} (h : w.heap[B]? = some (.cells #[a, b] T (0, 0))) : ((w.setCell ⟨B, 0, none⟩ c).setCell ⟨B, 1, none⟩ d).heap[B]? = some (.cells #[c, d] T (0, 0)) := box_over (cs := [a, b]) (us := [c, d]) h rfl
theorem SvAt.cut {w wr : World} {bs b4 b5 : Nat} {K : Int} {ts : Value} {A : List Int} {g rc k : Nat} (h : SvAt w bs b4 b5 K ts A (some ⟨g, 0, none⟩) rc wr) (n4 : b4 ≠ b5) (ns : bs ≠ b5) (hB : w.heap.size ≤ b5) (hk : k ≤ A.length) :
    SvAt w bs b4 b5 K ts (A.take k) (some ⟨g, 0, none⟩) rc (wr.setCell ⟨b5, 1, none⟩ (.slice (some ⟨g, 0, none⟩) k rc)) := by
  have hl : (A.take k).length = k := by rw [List.length_take]; omega
  have h1 := own_shorter h.own hk
  rw [Nat.mul_one, ← List.map_take] at h1
  refine ⟨?_, ?_, ?_, ?_, ?_⟩
  · rw [hl]
    exact ownsRow_setCell_other h1 (a := ⟨b5, 1, none⟩) (own_block_ne h1 h.b5 (by decide)) _
  · rw [hl]
    exact row_setCell 1 _ h.b5
  · exact row_setCell_other _ h.b4 n4
  · exact row_setCell_other _ h.bs ns
  · exact h.bel.setCell (p := ⟨b5, 1, none⟩) hB _
theorem SvAt.fin {w wr : World} {bs b4 b5 : Nat} {K : Int} {ts : Value} {A : List Int} {ro : Option Addr} {rc : Nat} (h : SvAt w bs b4 b5 K ts A ro rc wr) (hB : w.heap.size ≤ b4) (x y : Value) :
    ((wr.setCell ⟨b4, 0, none⟩ x).setCell ⟨b4, 1, none⟩ y).heap[b4]? = some (.cells #[x, y] 46 (0, 0)) ∧ ((wr.setCell ⟨b4, 0, none⟩ x).setCell ⟨b4, 1, none⟩ y).ownsRow w.heap.size 22 1 (.slice ro A.length rc) A.length (A.map (Value.int .u64)) ∧ Below w.heap.size w ((wr.setCell ⟨b4, 0, none⟩ x).setCell ⟨b4, 1, none⟩ y) := by
  have hn := own_block_ne h.own h.b4 (by decide)
  exact ⟨bx2_store h.b4, ownsRow_setCell_other (ownsRow_setCell_other h.own (a := ⟨b4, 0, none⟩) hn _) (a := ⟨b4, 1, none⟩) hn _, (h.bel.setCell (p := ⟨b4, 0, none⟩) hB _).setCell (p := ⟨b4, 1, none⟩) hB _⟩
set_option maxHeartbeats 16000000 in
set_option maxRecDepth 100000 in
theorem sieved_any (v : Value) (s : Ls) (h : Int) (w : World) (hv : LsV w v s) (hu : U64 h) (h0 : lsF s = 0) : Calls Try.prog 36 #[v, .int .u64 h] w fun e w' => ∃ v', e = .returned v' ∧ LsV w' v' (svU s h) ∧ Below w.heap.size w w' := by
  obtain ⟨t, rfl, hs, hz, hk1, hk2, hn9⟩ := hv
  obtain ⟨K, l⟩ := s
  obtain ⟨g1, g2, g3, hris⟩ := lsF_ok h0
  have g1 : 2 ≤ K := g1
  have g2 : K ≤ 64 := g2
  have g3 : (l.length : Int) ≤ K := g3
  have hris : Ris l := hris
  have hs : Sl w 1 t l.length (l.map (Value.int .u64)) := hs
  have hz : ∀ z ∈ l, U64 z := hz
  show Calls Try.prog 36 #[.agg #[.int .i64 K, t], .int .u64 h] w _
  obtain ⟨KN, rfl⟩ : ∃ KN : Nat, K = (KN : Int) := ⟨K.toNat, by omega⟩
  obtain ⟨n, hn⟩ : ∃ n, l.length = n := ⟨_, rfl⟩
  rw [hn] at hs g3
  obtain ⟨ao, c, rfl, hnc, hc, -⟩ := hs.shape
  obtain ⟨wa, hwa, hbox, hba, hsa⟩ := box_ls w (.int .i64 (KN : Int)) (.slice ao n c)
  obtain ⟨wb, hwb, hbox4, hbb, hsb⟩ := box_ls wa (.int .i64 0) (.slice none 0 0)
  obtain ⟨wc, hwc, hbox5, hbc, hsc⟩ := box_ls wb (.int .i64 (KN : Int)) (.slice none 0 0)
  have hz1 : wa.heap.size = w.heap.size + 1 := by rw [hwa]; simp
  have hz2 : wb.heap.size = w.heap.size + 1 + 1 := by rw [hwb]; simp [hz1]
  have HB5 : Hid (w.heap.size ≤ wb.heap.size) := Lib.hid (by omega)
  have HN4 : Hid (wa.heap.size ≠ wb.heap.size) := Lib.hid (by omega)
  have HB4 : Hid (w.heap.size ≤ wa.heap.size) := Lib.hid (by omega)
  have HNS : Hid (w.heap.size ≠ wb.heap.size) := Lib.hid (by omega)
  have HST0 : Hid (SvAt w w.heap.size wa.heap.size wb.heap.size (KN : Int) (.slice ao n c) [] none 0 wc) := Lib.hid ⟨World.ownsRow_nil _ _ _ _, hbox5, (hbc.block _ hsb).trans hbox4, (hbc.block _ (by omega)).trans ((hbb.block _ hsa).trans hbox), (hba.trans (hbb.mono hba.size)).trans (hbc.mono (by omega))⟩
  have HWA := Lib.hid hwa
  have HWB := Lib.hid hwb
  have HWC := Lib.hid hwc
  have HZ := Lib.hid (And.intro hz1 hz2)
  have HSL := Lib.hid hs
  have HN := Lib.hid hn
  have HRIS := Lib.hid hris
  have HU := Lib.hid hu
  have HUA := Lib.hid hz
  have hn64 : n ≤ 64 := by omega
  clear hs hz hn hris hu h0 hk1 hk2 hn9 hwa hbox hba hsa hwb hbox4 hbb hsb hwc hbox5 hbc hsc hz1 hz2
  obtain ⟨b5, hb5⟩ : ∃ x, wb.heap.size = x := ⟨_, rfl⟩
  obtain ⟨b4, hb4⟩ : ∃ x, wa.heap.size = x := ⟨_, rfl⟩
  obtain ⟨bs, hbs⟩ : ∃ x, w.heap.size = x := ⟨_, rfl⟩
  have HST1 : Hid (SvAt w bs b4 b5 (KN : Int) (.slice ao n c) [] none 0 wc) := Lib.hid (by rw [← hb5, ← hb4]; have := HST0.out; rwa [hbs] at this)
  have HEQ := Lib.hid (And.intro hb5 (And.intro hb4 hbs))
  rw [hb5, hb4] at HN4
  rw [hb5] at HNS HB5
  rw [hb4] at HB4
  have HNS : Hid (bs ≠ b5) := Lib.hid (by have := HNS.out; rwa [hbs] at this)
  clear HST0 hb5 hb4 hbs
  go_enter Try.func36, Try.ntmps36
  go_upto_region 3 with (fail)
  rw [← HWA.out, ← HWB.out, ← HWC.out, ← HZ.out.2, ← HZ.out.1, HEQ.out.1, HEQ.out.2.1, HEQ.out.2.2]
  obtain ⟨⟨d0, d1⟩, -⟩ := bx2 HST1.out.bs
  go_wp2_with fail
  clear d0 d1
  go_loopw [6, 15] (fun p i wr => ∃ (k : Nat) (pb : Bool) (A : List Int) (ro : Option Addr) (rc : Nat), k ≤ n ∧ p = .bool pb ∧ i = .int .i64 k ∧ Hid (Sv l h k pb A) ∧ Hid (SvAt w bs b4 b5 (KN : Int) (.slice ao n c) A ro rc wr)) (fun _ i _ => n - (intOf i).toNat)
  case atStart => exact ⟨0, false, [], none, 0, by omega, rfl, rfl, Lib.hid (sv_start l h), HST1⟩
  case round =>
    obtain ⟨k, pb, A, ro, rc, hk, rfl, rfl, HK, HST⟩ := hrel
    have HLEN : Hid (A.length ≤ 140) := Lib.hid (by have := sv_len HK.out; rw [HN.out] at this; omega)
    by_cases hlt : k < n
    case neg =>
      obtain rfl : k = n := by omega
      have HE := Lib.hid (sv_end (by rw [HN.out]; exact HK.out))
      cases pb with
      | true =>
        have HE : Hid (A = insU l h) := Lib.hid HE.out
        obtain ⟨S, hS⟩ : ∃ S, insU l h = S := ⟨_, rfl⟩
        have HSS := Lib.hid hS
        rw [hS] at HE
        have HEE := HE.out
        subst HEE
        clear HE hS
        have HMS : Hid (∀ z ∈ A, U64 z) := Lib.hid (by rw [← HSS.out]; exact mem_sv HUA.out HU.out)
        have HU9 : Hid (svU ⟨(KN : Int), l⟩ h = ⟨(KN : Int), (A).take KN⟩) := Lib.hid (by rw [← HSS.out]; rfl)
        obtain ⟨m, hm⟩ : ∃ m, (A).length = m := ⟨_, rfl⟩
        have HM := Lib.hid hm
        have hm9 : m ≤ 200 := by have := HLEN.out; omega
        clear hm
        by_cases hKm : KN < m
        case neg =>
          have htk : (A).take KN = A := List.take_of_length_le (by rw [HM.out]; omega)
          obtain ⟨⟨m0, m1⟩, -⟩ := bx2 HST.out.b5
          rw [HM.out] at m1
          go_upto_region 16 with (fail)
          clear m0 m1
          obtain ⟨⟨m0, m1⟩, -⟩ := bx2 HST.out.b5
          obtain ⟨⟨n0, n1⟩, ⟨h0, h1⟩⟩ := bx2 HST.out.b4
          rw [HM.out] at m1
          have hfin := fun x y => HST.out.fin HB4.out x y
          rw [HM.out] at hfin
          have HFIN := Lib.hid hfin
          clear hfin
          go_wp2_with fail
          obtain ⟨q1, q2, q3⟩ := HFIN.out (.int .i64 (KN : Int)) (.slice ro m rc)
          obtain ⟨⟨c0, c1⟩, -⟩ := bx2 q1
          refine bodyPost_ret (v := .agg #[.int .i64 (KN : Int), .slice ro m rc]) (by simp [results, Try.results36, go_sem, c0, c1]) rfl ?_
          rw [HU9.out]
          refine ⟨_, rfl, ⟨_, rfl, ?_, ?_, by show -9223372036854775808 ≤ (KN : Int); omega, by show (KN : Int) < 9223372036854775808; omega, ?_⟩, q3⟩
          · show Sl _ 1 _ ((A).take KN).length (((A).take KN).map (Value.int .u64))
            rw [htk, HM.out]
            exact own_sl q2
          · show ∀ z ∈ (A).take KN, U64 z
            rw [htk]
            exact HMS.out
          · show ((A).take KN).length ≤ 140737488355328
            rw [htk, HM.out]
            omega
        case pos =>
          have hO := HST.out.own
          rw [HM.out] at hO
          obtain ⟨g, cap, e1, hgB, hgl, hcap, hcapm, -⟩ := own_some hO (by omega)
          simp at e1
          obtain ⟨rfl, rfl⟩ := e1
          obtain ⟨⟨m0, m1⟩, ⟨f0, f1⟩⟩ := bx2 HST.out.b5
          rw [HM.out] at m1
          have hcut := HST.out.cut (k := KN) HN4.out HNS.out HB5.out (by rw [HM.out]; omega)
          have HCUT := Lib.hid hcut
          clear hcut hO
          go_upto_region 16 with (fail)
          obtain ⟨wz, hwz⟩ : ∃ wz, wz = wr.setCell ⟨b5, 1, none⟩ (.slice (some ⟨g, 0, none⟩) KN rc) := ⟨_, rfl⟩
          rw [← hwz] at HCUT ⊢
          clear hwz m0 m1 f0 f1
          have HMK : Hid (((A).take KN).length = KN) := Lib.hid (by rw [List.length_take, HM.out]; omega)
          obtain ⟨⟨m0, m1⟩, -⟩ := bx2 HCUT.out.b5
          obtain ⟨⟨n0, n1⟩, ⟨h0, h1⟩⟩ := bx2 HCUT.out.b4
          rw [HMK.out] at m1
          have hfin := fun x y => HCUT.out.fin HB4.out x y
          rw [HMK.out] at hfin
          have HFIN := Lib.hid hfin
          clear hfin
          go_wp2_with fail
          obtain ⟨q1, q2, q3⟩ := HFIN.out (.int .i64 (KN : Int)) (.slice (some ⟨g, 0, none⟩) KN rc)
          obtain ⟨⟨c0, c1⟩, -⟩ := bx2 q1
          refine bodyPost_ret (v := .agg #[.int .i64 (KN : Int), .slice (some ⟨g, 0, none⟩) KN rc]) (by simp [results, Try.results36, go_sem, c0, c1]) rfl ?_
          rw [HU9.out]
          refine ⟨_, rfl, ⟨_, rfl, ?_, ?_, by show -9223372036854775808 ≤ (KN : Int); omega, by show (KN : Int) < 9223372036854775808; omega, ?_⟩, q3⟩
          · show Sl _ 1 _ ((A).take KN).length (((A).take KN).map (Value.int .u64))
            rw [HMK.out]
            exact own_sl q2
          · show ∀ z ∈ (A).take KN, U64 z
            exact fun z hz => HMS.out z (List.mem_of_mem_take hz)
          · show ((A).take KN).length ≤ 140737488355328
            rw [HMK.out]
            omega
      | false =>
        have HE : Hid (A ++ [h] = insU l h) := Lib.hid HE.out
        obtain ⟨⟨-, m5⟩, -⟩ := bx2 HST.out.b5
        have hAl : A.length ≤ 200 := by have := HLEN.out; omega
        obtain ⟨p, hp⟩ : ∃ p, A.length = p := ⟨_, rfl⟩
        have hO := HST.out.own
        rw [hp] at hO m5 hAl
        have HPP := Lib.hid hp
        have HBB := HST.out.bel
        clear hp
        go_wp2_with (at_builtin; refine append1 [.int .u64 h] elU64 rfl _ _ rfl hO HBB HBB.size rfl rfl rfl (by intro x hx; simp at hx; rw [hx]; rfl) ?c4 ?c5 ?_)
        case c4 => omega
        case c5 => omega
        intro v5 w5 hown5 hbel5 hgr5
        obtain ⟨ro', rc', rfl, -, -, -⟩ := own_shape hown5
        obtain ⟨⟨k5, f5⟩, hst⟩ := HST.out.put (x := h) (ro' := ro') (rc' := rc') HN4.out HNS.out HB5.out (by rw [HPP.out]; exact hown5) hbel5 (by rw [HPP.out]; exact hgr5)
        rw [HPP.out] at hst k5
        clear hO HBB hown5 hbel5 hgr5
        go_upto_region 14 with (fail)
        obtain ⟨wn, hwn⟩ : ∃ wn, wn = w5.setCell ⟨b5, 1, none⟩ (.slice ro' (p + 1) rc') := ⟨_, rfl⟩
        rw [← hwn] at hst ⊢
        have HWN := Lib.hid hwn
        have HST2 := Lib.hid hst
        clear hwn hst
        clear m5 k5 f5 HST
        obtain ⟨A', hA'⟩ : ∃ A', A ++ [h] = A' := ⟨_, rfl⟩
        rw [hA'] at HST2 HE
        have HLEN2 : Hid (A'.length ≤ 140) := Lib.hid (by rw [← hA']; have := sv_len HK.out; rw [HN.out] at this; simp; omega)
        clear HLEN
        have HST := HST2
        have HLEN := HLEN2
        clear HST2 HLEN2
        have e9 : p + 1 = A'.length := by rw [← hA', List.length_append, HPP.out]; rfl
        clear hA'
        obtain ⟨S, hS⟩ : ∃ S, insU l h = S := ⟨_, rfl⟩
        have HSS := Lib.hid hS
        rw [hS] at HE
        have HEE := HE.out
        subst HEE
        clear HE hS
        have HMS : Hid (∀ z ∈ A', U64 z) := Lib.hid (by rw [← HSS.out]; exact mem_sv HUA.out HU.out)
        have HU9 : Hid (svU ⟨(KN : Int), l⟩ h = ⟨(KN : Int), (A').take KN⟩) := Lib.hid (by rw [← HSS.out]; rfl)
        obtain ⟨m, hm⟩ : ∃ m, (A').length = m := ⟨_, rfl⟩
        have HM := Lib.hid hm
        have hm9 : m ≤ 200 := by have := HLEN.out; omega
        clear hm
        by_cases hKm : KN < m
        case neg =>
          have htk : (A').take KN = A' := List.take_of_length_le (by rw [HM.out]; omega)
          obtain ⟨⟨m0, m1⟩, -⟩ := bx2 HST.out.b5
          rw [HM.out] at m1
          go_upto_region 16 with (fail)
          clear m0 m1
          obtain ⟨⟨m0, m1⟩, -⟩ := bx2 HST.out.b5
          obtain ⟨⟨n0, n1⟩, ⟨h0, h1⟩⟩ := bx2 HST.out.b4
          rw [HM.out] at m1
          have hfin := fun x y => HST.out.fin HB4.out x y
          rw [HM.out] at hfin
          have HFIN := Lib.hid hfin
          clear hfin
          go_wp2_with fail
          obtain ⟨q1, q2, q3⟩ := HFIN.out (.int .i64 (KN : Int)) (.slice ro' m rc')
          obtain ⟨⟨c0, c1⟩, -⟩ := bx2 q1
          refine bodyPost_ret (v := .agg #[.int .i64 (KN : Int), .slice ro' m rc']) (by simp [results, Try.results36, go_sem, c0, c1]) rfl ?_
          rw [HU9.out]
          refine ⟨_, rfl, ⟨_, rfl, ?_, ?_, by show -9223372036854775808 ≤ (KN : Int); omega, by show (KN : Int) < 9223372036854775808; omega, ?_⟩, q3⟩
          · show Sl _ 1 _ ((A').take KN).length (((A').take KN).map (Value.int .u64))
            rw [htk, HM.out]
            exact own_sl q2
          · show ∀ z ∈ (A').take KN, U64 z
            rw [htk]
            exact HMS.out
          · show ((A').take KN).length ≤ 140737488355328
            rw [htk, HM.out]
            omega
        case pos =>
          have hO := HST.out.own
          rw [HM.out] at hO
          obtain ⟨g, cap, e1, hgB, hgl, hcap, hcapm, -⟩ := own_some hO (by omega)
          simp at e1
          obtain ⟨rfl, rfl⟩ := e1
          obtain ⟨⟨m0, m1⟩, ⟨f0, f1⟩⟩ := bx2 HST.out.b5
          rw [HM.out] at m1
          have hcut := HST.out.cut (k := KN) HN4.out HNS.out HB5.out (by rw [HM.out]; omega)
          have HCUT := Lib.hid hcut
          clear hcut hO
          go_upto_region 16 with (fail)
          obtain ⟨wz, hwz⟩ : ∃ wz, wz = wn.setCell ⟨b5, 1, none⟩ (.slice (some ⟨g, 0, none⟩) KN rc') := ⟨_, rfl⟩
          rw [← hwz] at HCUT ⊢
          clear hwz m0 m1 f0 f1
          have HMK : Hid (((A').take KN).length = KN) := Lib.hid (by rw [List.length_take, HM.out]; omega)
          obtain ⟨⟨m0, m1⟩, -⟩ := bx2 HCUT.out.b5
          obtain ⟨⟨n0, n1⟩, ⟨h0, h1⟩⟩ := bx2 HCUT.out.b4
          rw [HMK.out] at m1
          have hfin := fun x y => HCUT.out.fin HB4.out x y
          rw [HMK.out] at hfin
          have HFIN := Lib.hid hfin
          clear hfin
          go_wp2_with fail
          obtain ⟨q1, q2, q3⟩ := HFIN.out (.int .i64 (KN : Int)) (.slice (some ⟨g, 0, none⟩) KN rc')
          obtain ⟨⟨c0, c1⟩, -⟩ := bx2 q1
          refine bodyPost_ret (v := .agg #[.int .i64 (KN : Int), .slice (some ⟨g, 0, none⟩) KN rc']) (by simp [results, Try.results36, go_sem, c0, c1]) rfl ?_
          rw [HU9.out]
          refine ⟨_, rfl, ⟨_, rfl, ?_, ?_, by show -9223372036854775808 ≤ (KN : Int); omega, by show (KN : Int) < 9223372036854775808; omega, ?_⟩, q3⟩
          · show Sl _ 1 _ ((A').take KN).length (((A').take KN).map (Value.int .u64))
            rw [HMK.out]
            exact own_sl q2
          · show ∀ z ∈ (A').take KN, U64 z
            exact fun z hz => HMS.out z (List.mem_of_mem_take hz)
          · show ((A').take KN).length ≤ 140737488355328
            rw [HMK.out]
            omega
    obtain ⟨x, hx⟩ : ∃ x, l[k]? = some x := ⟨_, List.getElem?_eq_getElem (by rw [HN.out]; exact hlt)⟩
    obtain ⟨b, off, rfl, x0⟩ := sl_elU (HSL.out.below HST.out.bel) hx hlt
    have HX := Lib.hid hx
    have hk0 : (0 : Int) ≤ (k : Int) := by omega
    have hk1 : (k : Int) < (n : Int) := by omega
    clear hx
    cases pb with
    | false =>
      by_cases hle : h ≤ x
      case pos =>
        have hd : decide (h ≤ x) = true := decide_eq_true hle
        have HK2 := Lib.hid (sv_put HK.out HX.out hle)
        go_upto_region 7 with (fail)
        obtain ⟨⟨-, m5⟩, -⟩ := bx2 HST.out.b5
        have hAl : A.length ≤ 200 := by have := HLEN.out; omega
        obtain ⟨p, hp⟩ : ∃ p, A.length = p := ⟨_, rfl⟩
        have hO := HST.out.own
        rw [hp] at hO m5 hAl
        have HPP := Lib.hid hp
        have HBB := HST.out.bel
        clear hp
        go_wp2_with (at_builtin; refine append1 [.int .u64 h] elU64 rfl _ _ rfl hO HBB HBB.size rfl rfl rfl (by intro x hx; simp at hx; rw [hx]; rfl) ?c4 ?c5 ?_)
        case c4 => omega
        case c5 => omega
        intro v5 w5 hown5 hbel5 hgr5
        obtain ⟨ro', rc', rfl, -, -, -⟩ := own_shape hown5
        obtain ⟨⟨k5, f5⟩, hst⟩ := HST.out.put (x := h) (ro' := ro') (rc' := rc') HN4.out HNS.out HB5.out (by rw [HPP.out]; exact hown5) hbel5 (by rw [HPP.out]; exact hgr5)
        rw [HPP.out] at hst k5
        clear hO HBB hown5 hbel5 hgr5
        go_upto_region 8 with (fail)
        obtain ⟨wn, hwn⟩ : ∃ wn, wn = w5.setCell ⟨b5, 1, none⟩ (.slice ro' (p + 1) rc') := ⟨_, rfl⟩
        rw [← hwn] at hst ⊢
        have HWN := Lib.hid hwn
        have HST2 := Lib.hid hst
        clear hwn hst
        clear m5 k5 f5 hd x0
        by_cases hxe : x = h
        · have hne : (x != h) = false := by simp; exact hxe
          rw [if_pos hxe] at HK2
          go_wp2_with fail
          go_roundw
          case rel => exact ⟨k + 1, true, _, _, _, by omega, rfl, by go_num, HK2, HST2⟩
          case measure => simp [intOf]; omega
        · have hne : (x != h) = true := by rw [bne_iff_ne]; exact hxe
          rw [if_neg hxe] at HK2
          have HLEN2 : Hid ((A ++ [h]).length ≤ 150) := Lib.hid (by have := HLEN.out; simp; omega)
          clear HST HLEN
          have HST := HST2
          have HLEN := HLEN2
          clear HST2 HLEN2
          obtain ⟨A', hA'⟩ : ∃ A', A ++ [h] = A' := ⟨_, rfl⟩
          rw [hA'] at HST HLEN HK2
          clear hA' HPP HWN hAl
          go_upto_region 10 with (fail)
          obtain ⟨⟨-, m5⟩, -⟩ := bx2 HST.out.b5
          have hAl : A'.length ≤ 200 := by have := HLEN.out; omega
          obtain ⟨p, hp⟩ : ∃ p, A'.length = p := ⟨_, rfl⟩
          have hO := HST.out.own
          rw [hp] at hO m5 hAl
          have HPP := Lib.hid hp
          have HBB := HST.out.bel
          clear hp
          go_wp2_with (at_builtin; refine append1 [.int .u64 x] elU64 rfl _ _ rfl hO HBB HBB.size rfl rfl rfl (by intro x hx; simp at hx; rw [hx]; rfl) ?c4 ?c5 ?_)
          case c4 => omega
          case c5 => omega
          intro v5 w5 hown5 hbel5 hgr5
          obtain ⟨ro', rc', rfl, -, -, -⟩ := own_shape hown5
          obtain ⟨⟨k5, f5⟩, hst⟩ := HST.out.put (x := x) (ro' := ro') (rc' := rc') HN4.out HNS.out HB5.out (by rw [HPP.out]; exact hown5) hbel5 (by rw [HPP.out]; exact hgr5)
          rw [HPP.out] at hst k5
          clear hO HBB hown5 hbel5 hgr5
          go_upto_region 11 with (fail)
          obtain ⟨wn, hwn⟩ : ∃ wn, wn = w5.setCell ⟨b5, 1, none⟩ (.slice ro' (p + 1) rc') := ⟨_, rfl⟩
          rw [← hwn] at hst ⊢
          have HWN := Lib.hid hwn
          have HST2 := Lib.hid hst
          clear hwn hst
          clear m5 k5 f5
          go_wp2_with fail
          go_roundw
          case rel => exact ⟨k + 1, true, _, _, _, by omega, rfl, by go_num, HK2, HST2⟩
          case measure => simp [intOf]; omega
      case neg =>
        have hd : decide (h ≤ x) = false := decide_eq_false hle
        have HK2 := Lib.hid (sv_less HK.out HX.out (by omega))
        have hne : (x != h) = true := by rw [bne_iff_ne]; omega
        go_upto_region 10 with (fail)
        obtain ⟨⟨-, m5⟩, -⟩ := bx2 HST.out.b5
        have hAl : A.length ≤ 200 := by have := HLEN.out; omega
        obtain ⟨p, hp⟩ : ∃ p, A.length = p := ⟨_, rfl⟩
        have hO := HST.out.own
        rw [hp] at hO m5 hAl
        have HPP := Lib.hid hp
        have HBB := HST.out.bel
        clear hp
        go_wp2_with (at_builtin; refine append1 [.int .u64 x] elU64 rfl _ _ rfl hO HBB HBB.size rfl rfl rfl (by intro x hx; simp at hx; rw [hx]; rfl) ?c4 ?c5 ?_)
        case c4 => omega
        case c5 => omega
        intro v5 w5 hown5 hbel5 hgr5
        obtain ⟨ro', rc', rfl, -, -, -⟩ := own_shape hown5
        obtain ⟨⟨k5, f5⟩, hst⟩ := HST.out.put (x := x) (ro' := ro') (rc' := rc') HN4.out HNS.out HB5.out (by rw [HPP.out]; exact hown5) hbel5 (by rw [HPP.out]; exact hgr5)
        rw [HPP.out] at hst k5
        clear hO HBB hown5 hbel5 hgr5
        go_upto_region 11 with (fail)
        obtain ⟨wn, hwn⟩ : ∃ wn, wn = w5.setCell ⟨b5, 1, none⟩ (.slice ro' (p + 1) rc') := ⟨_, rfl⟩
        rw [← hwn] at hst ⊢
        have HWN := Lib.hid hwn
        have HST2 := Lib.hid hst
        clear hwn hst
        clear m5 k5 f5 x0
        go_wp2_with fail
        go_roundw
        case rel => exact ⟨k + 1, false, _, _, _, by omega, rfl, by go_num, HK2, HST2⟩
        case measure => simp [intOf]; omega
    | true =>
      have HK2 := Lib.hid (sv_more HRIS.out HK.out HX.out)
      have hne : (x != h) = true := by have := HK2.out.1; rw [bne_iff_ne]; omega
      go_upto_region 10 with (fail)
      obtain ⟨⟨-, m5⟩, -⟩ := bx2 HST.out.b5
      have hAl : A.length ≤ 200 := by have := HLEN.out; omega
      obtain ⟨p, hp⟩ : ∃ p, A.length = p := ⟨_, rfl⟩
      have hO := HST.out.own
      rw [hp] at hO m5 hAl
      have HPP := Lib.hid hp
      have HBB := HST.out.bel
      clear hp
      go_wp2_with (at_builtin; refine append1 [.int .u64 x] elU64 rfl _ _ rfl hO HBB HBB.size rfl rfl rfl (by intro x hx; simp at hx; rw [hx]; rfl) ?c4 ?c5 ?_)
      case c4 => omega
      case c5 => omega
      intro v5 w5 hown5 hbel5 hgr5
      obtain ⟨ro', rc', rfl, -, -, -⟩ := own_shape hown5
      obtain ⟨⟨k5, f5⟩, hst⟩ := HST.out.put (x := x) (ro' := ro') (rc' := rc') HN4.out HNS.out HB5.out (by rw [HPP.out]; exact hown5) hbel5 (by rw [HPP.out]; exact hgr5)
      rw [HPP.out] at hst k5
      clear hO HBB hown5 hbel5 hgr5
      go_upto_region 11 with (fail)
      obtain ⟨wn, hwn⟩ : ∃ wn, wn = w5.setCell ⟨b5, 1, none⟩ (.slice ro' (p + 1) rc') := ⟨_, rfl⟩
      rw [← hwn] at hst ⊢
      have HWN := Lib.hid hwn
      have HST2 := Lib.hid hst
      clear hwn hst
      clear m5 k5 f5 x0
      go_wp2_with fail
      go_roundw
      case rel => exact ⟨k + 1, true, _, _, _, by omega, rfl, by go_num, Lib.hid HK2.out.2, HST2⟩
      case measure => simp [intOf]; omega
end Go.Proofs.Ytlfhcjhbnakamaa.Lst
/-
  Sieves: Grow and Concat at uint64.
-/
namespace Go.Proofs.Ytlfhcjhbnakamaa.Lst
open Go.RowKit Go.Gh Go.Proofs.Ytlfhcjhbnakamaa.Qs
set_option linter.unusedVariables false
set_option linter.unusedSimpArgs false
theorem run_append_gen {P : Program} {W : World} {B : Nat} {t ty e : TypeId} {size bytes n m c : Nat} {ao : Option Addr} {v : Value} {xs news : List Value} (el : Elem P t e size bytes) (hown : W.ownsRow B e size v n xs) (hx : Sl W size (.slice ao m c) m news) (h1 : ∀ u ∈ news, u.oneCell' = true)
    (h47 : (n + m) * bytes ≤ 140737488355328) (h63 : n + m ≤ 9223372036854775807) (hB : B ≤ W.heap.size) :
    ∃ v' w', (Builtin.append_ #[t, t] ty #[v, .slice ao m c]).run P W = .ok v' w' ∧ w'.ownsRow B e size v' (n + m) (xs ++ news) ∧ W.grownBy w' v.ownBlock := by
  obtain ⟨i, z, h2, h3, h4, h5, h6⟩ := el.info
  have hl : news.length = m * size := by obtain ⟨_, _, _, _, _, _, h, _⟩ := hx; exact h
  cases ao with
  | none =>
    obtain ⟨rfl, rfl⟩ : m = 0 ∧ c = 0 := by
      obtain ⟨ao', cap, e1, h, _, h', _, _⟩ := hx
      simp at e1
      obtain ⟨rfl, rfl⟩ := e1
      have := h' rfl
      omega
    have hnil : news = [] := List.length_eq_zero_iff.1 (by simpa using hl)
    subst hnil
    have hr := run_append_owned_none (P := P) (w := W) B t ty e i size el.und h2 _ n xs hown
    exact ⟨v, W, hr, by rw [List.append_nil]; exact hown, ⟨rfl, rfl, rfl, Nat.le_refl _, fun _ _ _ => rfl⟩⟩
  | some ad =>
    obtain ⟨v', w', hr, h7, h8, _⟩ := run_append_own (P := P) W B t ty e i z size bytes el.und h2 h3 h4 h5 h6 el.pos v n xs hown ad m c news hl (sl_news hx) h1 (by unfold maxLen; exact h63) h47 hB
    exact ⟨v', w', hr, h7, h8⟩
theorem wpList_append_gen {P : Program} {ops : Array Oper} {rest : List Oper} {o : Oper} {a : Act} {Q : Exit → Act → World → Prop} {W w0 : World} {B : Nat} {t e : TypeId} {size bytes n m c : Nat} {ao : Option Addr} {v : Value} {xs news : List Value} (el : Elem P t e size bytes) (hgd : o.guard = none) (s x : Operand)
    (ho : o.op = .call { callee := .builtin .append, args := #[s, x], argTypes := #[t, t] }) (hown : W.ownsRow B e size v n xs) (hbel : Below B w0 W) (hs : a.eval s = v) (hxv : a.eval x = .slice ao m c) (hx : Sl W size (.slice ao m c) m news) (h1 : ∀ u ∈ news, u.oneCell' = true)
    (h47 : (n + m) * bytes ≤ 140737488355328) (h63 : n + m ≤ 9223372036854775807) (hB : B ≤ W.heap.size)
    (h : ∀ v' w', w'.ownsRow B e size v' (n + m) (xs ++ news) → Below B w0 w' → W.grownBy w' v.ownBlock → wpList P ops Q rest (a.put o.dst v') w') : wpList P ops Q (o :: rest) a W :=
  wpList_plain hgd fun _ hK => by
    obtain ⟨v', w', hr, h2, h3⟩ := run_append_gen (P := P) (ty := o.type) el hown hx h1 h47 h63 hB
    unfold Oper.wp execOp
    simp only [ho, resolve, invoke, builtin, Sem.run_bind, Sem.run_pure, Result.andThen_ok, List.map_toArray, List.map_cons, List.map_nil, hs, hxv, hr]
    exact hK _ _ (h v' w' h2 (Below.grown hbel h3 hB (fun k hk => (hown.lt k hk).1)) h3)
theorem wpList_append_zeros {P : Program} {ops : Array Oper} {rest : List Oper} {o : Oper} {a : Act} {Q : Exit → Act → World → Prop} {W W' : World} {t tn : TypeId} {k : IntKind} {n : Int} {v : Value} (hgd : o.guard = none) (s x : Operand)
    (ho : o.op = .call { callee := .builtin .append, args := #[s, x], argTypes := #[t, tn] }) (hs : a.eval s = .slice none 0 0) (hxv : a.eval x = .int k n) (hr : ∀ ty, (Builtin.append_ #[t, tn] ty #[.slice none 0 0, .int k n]).run P W = .ok v W')
    (h : wpList P ops Q rest (a.put o.dst v) W') : wpList P ops Q (o :: rest) a W :=
  wpList_plain hgd fun _ hK => by
    have hr := hr o.type
    unfold Oper.wp execOp
    simp only [ho, resolve, invoke, builtin, Sem.run_bind, Sem.run_pure, Result.andThen_ok, List.map_toArray, List.map_cons, List.map_nil, hs, hxv, hr]
    exact hK _ _ h
theorem own_none {w : World} {B : Nat} {e : TypeId} {g n cap size : Nat} {xs : List Value} (h : w.ownsRow B e size (.slice (some ⟨g, 0, none⟩) n cap) n xs) : w.ownsRow B e size (.slice (some ⟨g, 0, none⟩) 0 cap) 0 [] := by
  rcases h.2 with ⟨e1, _⟩ | ⟨g', cap', cur, e1, hb, hg, hnc, hcm, hsz, _⟩
  · simp at e1
  · simp at e1
    obtain ⟨rfl, rfl⟩ := e1
    exact ⟨by simp, Or.inr ⟨g, cap, cur, rfl, hb, hg, Nat.zero_le _, hcm, hsz, by simp⟩⟩
theorem flat_take {lv : List (List Int)} {k : Nat} {l : List Int} (h : lv[k]? = some l) : (lv.take (k + 1)).flatten = (lv.take k).flatten ++ l := by
  obtain ⟨h1, h2⟩ := List.getElem?_eq_some_iff.1 h
  rw [List.take_succ_eq_append_getElem h1, h2, List.flatten_append, List.flatten_singleton]
/-- A row of numbers in a row. -/
def LvU (w : World) (l : List Int) (c : List Value) : Prop := ∃ t, c = [t] ∧ Sl w 1 t l.length (l.map (Value.int .u64))
theorem lvU_mono : Mono LvU := fun w w' a c ⟨t, h1, h2⟩ hb => ⟨t, h1, h2.below hb⟩
set_option maxHeartbeats 2000000 in
set_option maxRecDepth 100000 in
theorem growU_any (n : Nat) (w : World) (hn : n ≤ 1000000000) :
    Calls Try.prog 88 #[.slice none 0 0, .int .i64 n] w fun e w' => ∃ v', e = .returned v' ∧ w'.ownsRow w.heap.size 22 1 v' 0 [] ∧ Below w.heap.size w w' := by
  rcases Nat.eq_zero_or_pos n with rfl | hpos
  · go_enter Try.func88, Try.ntmps88
    go_wp2_with fail
    go_ret
    exact ⟨_, rfl, World.ownsRow_nil _ _ _ _, Below.refl _ _⟩
  · obtain ⟨i0, z0, hi0, hz0, hs0, hby0, hzs0⟩ := elU64.info
    have hr : ∀ ty, (Builtin.append_ #[44, 3] ty #[.slice none 0 0, .int .i64 n]).run Try.prog w = .ok (.slice (some ⟨w.heap.size, 0, none⟩) n (grownCap w n 0 22)) (w.drew.alloc (.cells (Builtin.zeroCells z0.cells n ++ Builtin.zeroCells z0.cells (grownCap w n 0 22 - n)) 22)) :=
      fun ty => Lib.run_append_nil_zeros w 44 3 ty 22 i0 z0 .i64 .i64 elU64.und Try.underlying3 hi0 hz0 n hpos (by omega) (by omega) (by rw [hby0]; omega)
    obtain ⟨hrow, -⟩ := zeros_row (w := w) (e := 22) (k := 1) (n := n) (i := 0) (B := w.heap.size) (old := 0) (z := z0) (xs := []) (by rw [hzs0]) rfl (Nat.zero_le _) hpos (Nat.le_refl _) (by unfold maxLen; omega)
    rw [Nat.sub_zero, show ([] : List Value).toArray ++ Builtin.zeroCells z0.cells n = Builtin.zeroCells z0.cells n from by simp] at hrow
    have hown := own_none hrow
    have hGn := grownCap_ge w n 0 22
    have hG63 := grownCap_le_maxLen w n 0 22 (by unfold maxLen; omega)
    unfold maxLen at hG63
    obtain ⟨W1, hW1⟩ : ∃ W1, W1 = w.drew.alloc (.cells (Builtin.zeroCells z0.cells n ++ Builtin.zeroCells z0.cells (grownCap w n 0 22 - n)) 22) := ⟨_, rfl⟩
    have hb1 : Below w.heap.size w W1 := by rw [hW1]; exact (Below.refl _ _).drew.alloc (Nat.le_refl _) _
    rw [← hW1] at hr hown
    obtain ⟨G, hG⟩ : ∃ G, G = grownCap w n 0 22 := ⟨_, rfl⟩
    rw [← hG] at hr hown hGn hG63
    have HO := Lib.hid hown
    have HR := Lib.hid hr
    clear hrow hown hW1 hG hr
    go_enter Try.func88, Try.ntmps88
    go_wp2_with (at_builtin; refine wpList_append_zeros rfl _ _ rfl rfl rfl HR.out ?_)
    go_ret
    exact ⟨_, rfl, HO.out, hb1⟩
theorem flatU_len : ∀ {lv : List (List Int)}, (∀ l ∈ lv, l.length ≤ 1048576) → lv.flatten.length ≤ 1048576 * lv.length
  | [], _ => by simp
  | l :: lv, h => by
    have h1 := flatU_len (lv := lv) (fun x hx => h x (by simp [hx]))
    have h2 := h l (by simp)
    rw [List.flatten_cons, List.length_append, List.length_cons]
    omega
set_option maxHeartbeats 4000000 in
set_option maxRecDepth 100000 in
theorem concatU_any (u : Value) (lv : List (List Int)) (w : World) (hu : Sp LvU 1 w u lv) (h64 : ∀ l ∈ lv, l.length ≤ 1048576) (hL20 : lv.length ≤ 20) :
    Calls Try.prog 58 #[u] w fun e w' => ∃ v', e = .returned v' ∧ w'.ownsRow w.heap.size 22 1 v' lv.flatten.length (lv.flatten.map (Value.int .u64)) ∧ Below w.heap.size w w' := by
  obtain ⟨bo, d, rfl, hod, hd⟩ := hu.shape
  obtain ⟨L, hL⟩ : ∃ n, lv.length = n := ⟨_, rfl⟩
  have HU := Lib.hid hu
  rw [hL] at HU hod hL20 ⊢
  have HL := Lib.hid hL
  have H64 := Lib.hid h64
  have HFL : Hid (∀ k, ((lv.take k).flatten).length ≤ 1048576 * 20) := Lib.hid (fun k => by
    have h1 := flatU_len (lv := lv.take k) (fun l hl => h64 l (List.mem_of_mem_take hl))
    rw [List.length_take] at h1
    omega)
  clear hL hu h64
  go_enter Try.func58, Try.ntmps58
  go_wp2_with fail
  go_loopw [3, 11] (fun y i wr => ∃ k : Nat, k ≤ L ∧ i = .int .i64 k ∧ y = .int .i64 ((lv.take k).flatten.length : Nat) ∧ w = wr) (fun _ i _ => L - (intOf i).toNat)
  case atStart => exact ⟨0, Nat.zero_le _, rfl, rfl, rfl⟩
  case round =>
    obtain ⟨k, hk, rfl, rfl, rfl⟩ := hrel
    by_cases hlt : k < L
    · obtain ⟨l, hl⟩ : ∃ l, lv[k]? = some l := ⟨_, List.getElem?_eq_getElem (by rw [HL.out]; exact hlt)⟩
      obtain ⟨g, off, cs, rfl, ⟨t, rfl, hns⟩, _, hck⟩ := HU.out.get hl
      have c0 := hck 0 _ rfl
      rw [Nat.add_zero, Nat.mul_one] at c0
      obtain ⟨lo, lc, rfl, hlc, hlc2, -⟩ := hns.shape
      have hf := flat_take hl
      have h1 := HFL.out k
      have h2 := HFL.out (k + 1)
      obtain ⟨p, hp⟩ : ∃ p, (lv.take k).flatten.length = p := ⟨_, rfl⟩
      obtain ⟨m, hm⟩ : ∃ m, l.length = m := ⟨_, rfl⟩
      have HF : Hid ((lv.take (k + 1)).flatten.length = p + m) := Lib.hid (by rw [hf, List.length_append, hp, hm])
      rw [hf, List.length_append] at h2
      rw [hp] at h1 h2 ⊢
      rw [hm] at h2 hlc c0
      clear hck hl hns hf hp hm
      go_wp2_with fail
      go_roundw
      case rel => exact ⟨k + 1, by omega, by go_num, by rw [HF.out]; go_num, by first | rfl | trivial⟩
      case measure => simp [intOf]; omega
    · have hkL : k = L := by omega
      subst hkL
      have hta : lv.take k = lv := List.take_of_length_le (by rw [HL.out]; exact Nat.le_refl _)
      have h1 := HFL.out k
      rw [hta] at h1 ⊢
      obtain ⟨p, hp⟩ : ∃ p, lv.flatten.length = p := ⟨_, rfl⟩
      have HP := Lib.hid hp
      rw [hp] at h1 ⊢
      clear hta hp
      go_wp2_with fail
      refine (growU_any p _ (by omega)).mono ?_
      rintro e w1 ⟨v1, rfl, hown1, hb1⟩
      have HO1 := Lib.hid hown1
      have HB1 := Lib.hid hb1
      clear hown1 hb1
      go_wp2_with fail
      go_loopw [6, 27] (fun v i wr => ∃ j : Nat, j ≤ k ∧ i = .int .i64 j ∧ Hid (wr.ownsRow w.heap.size 22 1 v (lv.take j).flatten.length ((lv.take j).flatten.map (Value.int .u64))) ∧ Below w.heap.size w wr) (fun _ i _ => k - (intOf i).toNat)
      case atStart => exact ⟨0, Nat.zero_le _, rfl, HO1, HB1.out⟩
      case round =>
        obtain ⟨j, hj, rfl, HO, hbr⟩ := hrel
        obtain ⟨uo, uc, rfl, huc, -, -⟩ := own_shape HO.out
        by_cases hlt2 : j < k
        · obtain ⟨l, hl⟩ : ∃ l, lv[j]? = some l := ⟨_, List.getElem?_eq_getElem (by rw [HL.out]; exact hlt2)⟩
          obtain ⟨g, off, cs, rfl, ⟨t, rfl, hns⟩, _, hck⟩ := (HU.out.below lvU_mono hbr).get hl
          have c0 := hck 0 _ rfl
          rw [Nat.add_zero, Nat.mul_one] at c0
          obtain ⟨lo, lc, rfl, hlc, hlc2, -⟩ := hns.shape
          have hf := flat_take hl
          have h1 := HFL.out j
          have h2 := HFL.out (j + 1)
          rw [hf, List.length_append] at h2
          have HF : Hid ((lv.take (j + 1)).flatten = (lv.take j).flatten ++ l) := Lib.hid hf
          have HNS := Lib.hid hns
          have hown := HO.out
          clear hck hl hf hns
          go_wp2_with (at_builtin; refine wpList_append_gen elU64 rfl _ _ rfl hown hbr rfl rfl HNS.out (ints_one _ _) ?c1 ?c2 hbr.size ?_)
          case c1 => omega
          case c2 => omega
          intro v7 w7 hown7 hbel7 _
          have HO7 : Hid (w7.ownsRow w.heap.size 22 1 v7 (lv.take (j + 1)).flatten.length ((lv.take (j + 1)).flatten.map (Value.int .u64))) := Lib.hid (by
            rw [HF.out, List.length_append, List.map_append]
            simpa using hown7)
          clear hown7 hown
          go_wp2_with fail
          go_roundw
          case rel => exact ⟨j + 1, by omega, by go_num, HO7, hbel7⟩
          case measure => simp [intOf]; omega
        · have hjk : j = k := by omega
          subst hjk
          have HO7 := HO.out
          rw [List.take_of_length_le (by rw [HL.out]; exact Nat.le_refl _), HP.out] at HO7
          have HO8 := Lib.hid HO7
          clear HO7
          go_wp2_with fail
          go_ret
          exact ⟨_, rfl, by first | exact HO8.out | (rw [List.take_of_length_le (by rw [HL.out]; exact Nat.le_refl _), HP.out]; exact HO8.out), hbr⟩
theorem sp_twoU {w : World} {va vb : Value} {a b : List Int} (ha : Sl w 1 va a.length (a.map (Value.int .u64))) (hb : Sl w 1 vb b.length (b.map (Value.int .u64))) : Sp LvU 1 (w.alloc (.cells #[va, vb] 44)) (.slice (some ⟨w.heap.size, 0, none⟩) 2 2) [a, b] :=
  ⟨[(a, [va]), (b, [vb])], rfl, fun p hp => by
    simp only [List.mem_cons, List.not_mem_nil, or_false] at hp
    rcases hp with rfl | rfl <;> rfl, fun p hp => by
    simp only [List.mem_cons, List.not_mem_nil, or_false] at hp
    rcases hp with rfl | rfl
    · exact ⟨_, rfl, ha.below ((Below.refl _ _).alloc (Nat.le_refl _) _)⟩
    · exact ⟨_, rfl, hb.below ((Below.refl _ _).alloc (Nat.le_refl _) _)⟩, sl_new w [va, vb] rfl (by decide)⟩
end Go.Proofs.Ytlfhcjhbnakamaa.Lst
/-
  Sieves: the walk of kept.
-/
namespace Go.Proofs.Ytlfhcjhbnakamaa.Lst
open Go.RowKit Go.Gh Go.Proofs.Ytlfhcjhbnakamaa.Qs
set_option linter.unusedVariables false
set_option linter.unusedSimpArgs false
theorem srt_len (l : List Int) : (srtU l).length = l.length := by unfold srtU; exact (List.mergeSort_perm _ _).length_eq
theorem cmp_srt (l : List Int) : Lib.compact (srtU l) = setL l := rfl
/-- A row of one's own, or none, seen shorter. -/
theorem own_short2 {w : World} {B : Nat} {ao : Option Addr} {n cap m : Nat} {l : List Int} (h : w.ownsRow B 22 1 (.slice ao n cap) n (l.map (Value.int .u64))) (hm : m ≤ n) : w.ownsRow B 22 1 (.slice ao m cap) m ((l.take m).map (Value.int .u64)) := by
  have hl : l.length = n := by simpa using h.1
  rcases Nat.eq_zero_or_pos n with h0 | h0
  · subst h0
    have hm0 : m = 0 := by omega
    subst hm0
    rw [List.length_eq_zero_iff.1 hl] at h ⊢
    exact h
  · obtain ⟨g, cap', e1, -, -, -, -, -⟩ := own_some h h0
    simp at e1
    obtain ⟨rfl, rfl⟩ := e1
    have := own_shorter h hm
    rw [Nat.mul_one, ← List.map_take] at this
    exact this
def KpP (B K : Nat) (l : List Int) (w : World) (e : Ending) (w' : World) : Prop := ∃ t, e = .returned (.agg #[.int .i64 (K : Int), t]) ∧ w'.ownsRow B 22 1 t ((setL l).take K).length (((setL l).take K).map (Value.int .u64)) ∧ Below B w w'
set_option maxHeartbeats 8000000 in
set_option maxRecDepth 100000 in
theorem kept_any (K B : Nat) (v : Value) (l : List Int) (w : World) (h : w.ownsRow B 22 1 v l.length (l.map (Value.int .u64))) (hl : l.length ≤ 1000000) (hB : B ≤ w.heap.size) (hK : K ≤ 64) :
    Calls Try.prog 56 #[.int .i64 (K : Int), v] w (KpP B K l w) := by
  obtain ⟨n, hn⟩ : ∃ n, l.length = n := ⟨_, rfl⟩
  rw [hn] at h hl
  obtain ⟨ao, c, rfl, hnc, hc, -⟩ := own_shape h
  obtain ⟨wa, hwa, hbox, hba, hsa⟩ := box_ls w (.int .i64 0) (.slice none 0 0)
  have HO := Lib.hid (own_below h hba)
  have HN := Lib.hid hn
  have HWA := Lib.hid hwa
  have HBX := Lib.hid hbox
  have HBA : Hid (Below B w wa) := Lib.hid (hba.mono hB)
  obtain ⟨b4, hb4⟩ : ∃ b4, w.heap.size = b4 := ⟨_, rfl⟩
  have HB4 := Lib.hid hb4
  rw [hb4] at HBX
  clear h hn hwa hbox hba hb4
  go_enter Try.func56, Try.ntmps56
  go_upto_region 1 with (fail)
  rw [HB4.out, ← HWA.out]
  go_wp2_with fail
  refine (sortU_any _ n B l wa HO.out hl).mono ?_
  rintro e w1 ⟨rfl, hown1, hg1⟩
  have hx1 := grown_block2 hg1 (own_block_ne HO.out HBX.out (by decide)) HBX.out
  have hb1 : Below B w w1 := HBA.out.grown hg1 (by have := HBA.out.size; omega) (fun k hk => (HO.out.lt k hk).1)
  have HSL : Hid ((srtU l).length = n) := Lib.hid (by rw [srt_len]; exact HN.out)
  have hown1' : w1.ownsRow B 22 1 (.slice ao n c) (srtU l).length (u64 (srtU l)) := by rw [HSL.out]; exact hown1
  have HO1 := Lib.hid hown1'
  have HB1 := Lib.hid hb1
  have HX1 := Lib.hid hx1
  clear hown1 hown1' hg1 hx1 hb1
  go_wp2_with fail
  refine (compactU_any _ B (srtU l) w1 HO1.out (by rw [HSL.out]; exact hl) (by have := HB1.out.size; omega)).mono ?_
  rintro e w2 ⟨v2, rfl, hown2, hg2⟩
  have hx2 := grown_block2 hg2 (own_block_ne HO1.out HX1.out (by decide)) HX1.out
  have hb2 : Below B w w2 := HB1.out.grown hg2 (by have := HB1.out.size; omega) (fun k hk => (HO1.out.lt k hk).1)
  obtain ⟨S, hS⟩ : ∃ S, setL l = S := ⟨_, rfl⟩
  rw [cmp_srt, hS] at hown2
  have HSS := Lib.hid hS
  obtain ⟨m, hm⟩ : ∃ m, S.length = m := ⟨_, rfl⟩
  rw [hm] at hown2
  obtain ⟨ao2, c2, rfl, hmc, hc2, -⟩ := own_shape hown2
  have HM := Lib.hid hm
  have hown3 := own_short2 (m := min K m) hown2 (Nat.min_le_right _ _)
  obtain ⟨q, hq⟩ : ∃ q, min K m = q := ⟨_, rfl⟩
  have hqK : q ≤ K := by rw [← hq]; exact Nat.min_le_left _ _
  have hqm : q ≤ m := by rw [← hq]; exact Nat.min_le_right _ _
  have hqi : min (K : Int) (m : Int) = (q : Int) := by omega
  rw [hq] at hown3
  have hne2 := own_block_ne hown3 hx2 (by decide)
  have hO3 := fun x y => ownsRow_setCell_other (ownsRow_setCell_other hown3 (a := ⟨b4, 0, none⟩) hne2 x) (a := ⟨b4, 1, none⟩) hne2 y
  have hbb : B ≤ b4 := by rw [← HB4.out]; exact hB
  have hB3 := fun x y => (hb2.setCell (p := ⟨b4, 0, none⟩) hbb x).setCell (p := ⟨b4, 1, none⟩) hbb y
  have hX3 := fun x y => bx2_store (c := x) (d := y) hx2
  have HO3 := Lib.hid hO3
  have HB3 := Lib.hid hB3
  have HX3 := Lib.hid hX3
  obtain ⟨⟨m0, m1⟩, ⟨f0, f1⟩⟩ := bx2 hx2
  have HTK : Hid (S.take K = S.take q) := Lib.hid (by
    rcases Nat.le_total K m with h | h
    · rw [show q = K by omega]
    · rw [show q = m by omega, List.take_of_length_le (by rw [HM.out]; omega), List.take_of_length_le (by rw [HM.out]; exact Nat.le_refl _)])
  clear hown2 hown3 hg2 hx2 hb2 hS hm hO3 hB3 hX3 hne2 hq
  go_wp2_with fail
  obtain ⟨⟨c0, c1⟩, -⟩ := bx2 (HX3.out (.int .i64 (K : Int)) (.slice ao2 q c2))
  refine bodyPost_ret (v := .agg #[.int .i64 (K : Int), .slice ao2 q c2]) (by simp [results, Try.results56, go_sem, c0, c1]) rfl ?_
  refine ⟨_, rfl, ?_, HB3.out _ _⟩
  rw [HSS.out, HTK.out, show (S.take q).length = q from by rw [List.length_take, HM.out]; omega]
  exact HO3.out _ _
end Go.Proofs.Ytlfhcjhbnakamaa.Lst
/-
  Plain arithmetic for the hash: turning a whole part into a number is undone by as many rounds as it takes, and the mixed number comes back.
-/
namespace Go.Gh

def xs (n s : Nat) : Nat := n ^^^ (n / 2 ^ s)
def mixN (u : Nat) : Nat := xs (xs (xs u 29 * 10321020848683521121 % 18446744073709551616) 32 * 7694936916205891629 % 18446744073709551616) 28

theorem xs_lt (n s k : Nat) (h : n < 2 ^ k) : xs n s < 2 ^ k :=
  Nat.xor_lt_two_pow h (Nat.lt_of_le_of_lt (Nat.div_le_self _ _) h)

theorem mixN_lt (u : Nat) : mixN u < 18446744073709551616 := xs_lt _ _ 64 (Nat.mod_lt _ (by decide))

def itU (u n : Nat) : Nat → Nat
  | 0 => u
  | k + 1 => u ^^^ (itU u n k / 2 ^ n)

theorem itU_lt (u n k b : Nat) (h : u < 2 ^ b) : itU u n k < 2 ^ b := by
  induction k with
  | zero => exact h
  | succ k ih => exact Nat.xor_lt_two_pow h (Nat.lt_of_le_of_lt (Nat.div_le_self _ _) ih)

theorem div_xor (a b n : Nat) : (a ^^^ b) / 2 ^ n = (a / 2 ^ n) ^^^ (b / 2 ^ n) := by
  rw [← Nat.shiftRight_eq_div_pow, ← Nat.shiftRight_eq_div_pow, ← Nat.shiftRight_eq_div_pow, Nat.shiftRight_xor_distrib]

theorem itU_err (u n k : Nat) : itU u n k ^^^ (itU u n k / 2 ^ n) ^^^ u = u / 2 ^ ((k + 1) * n) := by
  induction k with
  | zero => simp [itU, Nat.xor_comm u, Nat.xor_assoc]
  | succ k ih =>
    have e : u / 2 ^ ((k + 1 + 1) * n) = (u / 2 ^ ((k + 1) * n)) / 2 ^ n := by
      rw [Nat.div_div_eq_div_mul, ← Nat.pow_add]; congr 2; rw [Nat.add_mul (k+1)]; omega
    rw [e, ← ih, div_xor, div_xor]
    simp only [itU, div_xor]
    generalize itU u n k / 2 ^ n = v
    generalize u / 2 ^ n = x
    generalize v / 2 ^ n = y
    rw [Nat.xor_comm u v, Nat.xor_assoc, Nat.xor_assoc, Nat.xor_comm x y]
    rw [← Nat.xor_assoc u, Nat.xor_comm u, Nat.xor_assoc, Nat.xor_self, Nat.xor_zero, Nat.xor_assoc]

theorem xs_itU (u n k b : Nat) (h : u < 2 ^ b) (hb : b ≤ (k + 1) * n) : xs (itU u n k) n = u := by
  have e := itU_err u n k
  have z : u / 2 ^ ((k + 1) * n) = 0 := Nat.div_eq_of_lt (Nat.lt_of_lt_of_le h (Nat.pow_le_pow_right (by decide) hb))
  rw [z] at e
  unfold xs
  have := congrArg (· ^^^ u) e
  simpa [Nat.xor_assoc] using this

def unmixN (u : Nat) : Nat :=
  itU (itU (itU u 28 2 * 6263247216084901797 % 18446744073709551616) 32 1 * 6334239490909081505 % 18446744073709551616) 29 2

theorem mul_back (c a i : Nat) (h : i * a % 18446744073709551616 = 1) (hc : c < 18446744073709551616) : c * i % 18446744073709551616 * a % 18446744073709551616 = c := by
  rw [Nat.mod_mul_mod, Nat.mul_assoc, Nat.mul_mod, h, Nat.mul_one, Nat.mod_mod, Nat.mod_eq_of_lt hc]

theorem mix_unmix (u : Nat) (h : u < 18446744073709551616) : mixN (unmixN u) = u := by
  unfold mixN unmixN
  rw [xs_itU _ 29 2 64 (Nat.mod_lt _ (by decide)) (by decide), mul_back _ _ _ (by decide) (itU_lt _ _ _ 64 (Nat.mod_lt _ (by decide))),
    xs_itU _ 32 1 64 (Nat.mod_lt _ (by decide)) (by decide), mul_back _ _ _ (by decide) (itU_lt _ _ _ 64 h), xs_itU _ 28 2 64 h (by decide)]

end Go.Gh
