/-
  The walk of the law HandPlays.
-/
import Derived.Test.YtcljeedmiobepaaHd12
import Derived.Test.YtcljeedmiobepaaHd13
import Derived.Deep.CutBlock
import Derived.Deep.RegionLaw
import Derived.Deep.RegionHeld3
import Derived.BigRegion
namespace Go.Proofs.Ytcljeedmiobepaa.HandPlays
open Go.RowKit Go.Gh Go.Proofs.Ytcljeedmiobepaa.Rk Go.Proofs.Ytcljeedmiobepaa.Hd
set_option linter.unusedVariables false
theorem size_emp (o : ByteArray) : o.toList.isEmpty = decide (o.size < 1) := by
  rw [ByteArray.toList_eq]
  have : o.size = o.data.toList.length := rfl
  cases h : o.data.toList with
  | nil => rw [h] at this; simp at this; simp [this]
  | cons a l => rw [h, List.length_cons] at this; simp [this]
theorem nameB_no {o : ByteArray} (h : nameB o = false) (h1 : ¬ (o.size : Int) < 1) : (20 : Int) < o.size := by
  unfold nameB at h
  rw [size_emp, decide_eq_false (by omega)] at h
  simp at h
  omega
theorem nameB_yes {o : ByteArray} (h : nameB o = true) : 1 ≤ o.size ∧ o.size ≤ 20 := by
  unfold nameB at h
  rw [size_emp, Bool.and_eq_true] at h
  obtain ⟨h1, h2⟩ := h
  have h1' : ¬ o.size < 1 := by simpa using h1
  have h2' : o.size ≤ 20 := by simpa using h2
  exact ⟨by omega, h2'⟩
theorem hinv0 (o : ByteArray) : HInv 0 (newH o) := ⟨⟨List.Pairwise.nil, Nat.le_refl _, wf_nil⟩, ⟨List.Pairwise.nil, Nat.le_refl _, wf_nil⟩, wf_nil, ⟨by show (0 : Int) ≤ 1; omega, by show (1 : Int) ≤ 1 + (0 : Nat); omega⟩⟩
set_option maxHeartbeats 8000000 in
set_option maxRecDepth 100000 in
theorem walk (v0 v1 : Value) (w : World) (h0 : IsString w v0) (h1 : IsMoves w v1) :
    Calls Try.prog 6 #[v0, v1] w fun e w' => e = .returned (.bool true) ∧ Below w.heap.size w w' := by
  obtain ⟨o, rfl, hos⟩ := h0
  obtain ⟨L, hsp⟩ := h1
  obtain ⟨n, hn⟩ : ∃ n, L.length = n := ⟨_, rfl⟩
  obtain ⟨ao, c, rfl, hnc, hc⟩ := hsp.shapeN hn
  have HSP := Lib.hid hsp
  have HLN := Lib.hid hn
  clear hsp hn
  by_cases hbig : 80 < n
  · go_enter Try.func6, Try.ntmps6
    go_wp2_with fail
    go_ret
    exact ⟨rfl, Below.refl _ _⟩
  go_enter Try.func6, Try.ntmps6
  go_wp2_with fail
  refine (pnew_any o _).mono ?_
  rintro e w1 (⟨hnm, rfl, rfl⟩ | ⟨hnm, rfl, hb1, hp1⟩)
  · by_cases hl1 : (o.size : Int) < 1
    · go_wp2_with fail
      go_ret
      exact ⟨rfl, Below.refl _ _⟩
    · have hl2 := nameB_no hnm hl1
      go_wp2_with fail
      go_ret
      exact ⟨rfl, Below.refl _ _⟩
  have hnm2 := nameB_yes hnm
  have HP1 := Lib.hid hp1
  have HB1 := Lib.hid hb1
  clear hp1 hb1 hnm
  go_wp2_with fail
  refine (rnew_any o _).mono ?_
  rintro e w2 ⟨mb, bh, rfl, hb2, hr2⟩
  have H0 : Hid (Both w.heap.size w1.heap.size w.heap.size mb (newH o) (newH o) w w2) := Lib.hid
    ⟨_, _, _, _, _, _, HP1.out.below hb2, hr2, fun g hg => by simp [Value.ownBlock] at hg, HB1.out.trans (hb2.mono HB1.out.size), HB1.out.size⟩
  clear hb2 hr2
  go_wp2_with fail
  generalize hhb : w.heap.size = hb at *
  generalize hBR : w1.heap.size = BR at *
  go_loopw [49] (fun i wx => ∃ (k : Nat) (s : Hd), k ≤ n ∧ i = .int .i64 k ∧ Hid (HInv k s) ∧ Hid (Both hb BR hb mb s s w wx)) (fun i _ => n - (intOf i).toNat)
  case atStart => exact ⟨0, newH o, by omega, rfl, Lib.hid (hinv0 o), H0⟩
  case round =>
    obtain ⟨k, s, hk, rfl, HI, HT⟩ := hrel
    by_cases hlt : k < n
    · obtain ⟨M, hM⟩ : ∃ M, L[k]? = some M := ⟨_, List.getElem?_eq_getElem (by rw [HLN.out]; exact hlt)⟩
      have hbw : Below w.heap.size w wr := by
        obtain ⟨vh, vn, vp, bh', mn, vl, q1, q2, q3, q4, q5⟩ := HT.out
        rw [hhb]; exact q4
      have hspr := HSP.out.below mvR_mono hbw
      obtain ⟨b, off, cs, rfl, ⟨rfl, hid, hmn⟩, -, hcl⟩ := hspr.get hM
      have a0 := hcl 0 _ rfl
      rw [Nat.add_zero] at a0
      have a1 := hcl 1 _ rfl
      have a2 := hcl 2 _ rfl
      have a3 := hcl 3 _ rfl
      have a4 := hcl 4 _ rfl
      clear hcl hspr hM
      obtain ⟨kd, ep, id, to', x⟩ := M
      dsimp only at a0 a1 a2 a3 a4 hid hmn
      have HID := Lib.hid hid
      have HMN := Lib.hid hmn
      clear hid hmn
      obtain ⟨bx, hbx⟩ : ∃ bx, wr.heap.size = bx := ⟨_, rfl⟩
      have hba : Below wr.heap.size wr (wr.alloc (.cells #[.int .i64 kd, .int .i64 ep, .int .i64 id, .string to', .int .i64 x] 66)) := (Below.refl _ _).alloc (Nat.le_refl _) _
      have hboxa := heap_alloc_new wr (.cells #[.int .i64 kd, .int .i64 ep, .int .i64 id, .string to', .int .i64 x] 66)
      rw [hbx] at hboxa
      have HH : Hid (Half hb BR hb mb bx #[.int .i64 kd, .int .i64 ep, .int .i64 id, .string to', .int .i64 x] s s w (wr.alloc (.cells #[.int .i64 kd, .int .i64 ep, .int .i64 id, .string to', .int .i64 x] 66))) := Lib.hid ⟨HT.out.below hba, hboxa⟩
      clear hba hboxa hbw HT
      go_upto_region 12 with (fail)
      generalize wr.alloc (.cells #[.int .i64 kd, .int .i64 ep, .int .i64 id, .string to', .int .i64 x] 66) = wa at *
      obtain ⟨⟨q0, q1, q2, q3, q4⟩, -⟩ := bx5 HH.out.2
      clear a0 a1 a2 a3 a4 hbx
      go_upto_block 2 with fail
      go_cut [10] (fun ok wx => ok = .bool true ∧ ∃ s', HInv (k + 1) s' ∧ Both hb BR hb mb s' s' w wx)
      case first =>
        by_cases h1 : kd = 1
        · have t1 : (kd == 1) = true := by rw [h1]; rfl
          obtain ⟨C, hC⟩ : ∃ C, wrH s ep id = C := ⟨_, rfl⟩
          have HI2 : Hid (HInv (k + 1) C.2) := Lib.hid (by rw [← hC]; exact HI.out.wr ep id HID.out)
          obtain ⟨cd, s'⟩ := C
          have HC := Lib.hid hC
          have tc : (cd == cd) = true := by simp
          clear hC h1
          go_upto_region 19 with (fail)
          have HH1 := Lib.hid (HH.out.below ((Below.refl _ wa).drew))
          have HA1 := Lib.hid (HH1.out.act (s' := s') (r := .int .i64 cd) (fun vh vn vp h => by have hx := pwrite_any hb hb s ep id vh vn vp _ h HI.out.has.1 HI.out.nxt.1 (by have := HI.out.has.2.1; omega) (by have := HI.out.nxt.2.1; omega); rw [HC.out] at hx; exact hx))
          go_region_held3 (fun w' => w'.cell? ⟨bx, 1, none⟩ = some (.int .i64 ep) ∧ w'.cell? ⟨bx, 2, none⟩ = some (.int .i64 id)) (first | (with_reducible exact ⟨q1, q2⟩) | (with_reducible exact ⟨z1, z2⟩) | (with_reducible exact ⟨y1, y2⟩) | go_keep) (first
            | (go_at_call 33; refine HA1.out.mono ?_; rintro e w2 ⟨rfl, HF2⟩; have HH2 := Lib.hid HF2; obtain ⟨⟨z0, z1, z2, z3, z4⟩, -⟩ := bx5 HF2.2)
            | (go_at_call 34; refine (HH2.out.ract (s' := s') (r := .int .i64 cd) (fun bh mn vl h => by have hx := rwrite_any BR mb bh s ep id mn vl _ h HID.out (by have := HI.out.has.2.1; omega) (by have := HI.out.nxt.2.1; omega); rw [HC.out] at hx; exact hx)).mono ?_; rintro e w3 ⟨rfl, HF3⟩; have HH3 := Lib.hid HF3; obtain ⟨⟨y0, y1, y2, y3, y4⟩, -⟩ := bx5 HF3.2))
          go_wp2_with fail
          go_meet
          exact ⟨rfl, s', HI2.out, HH3.out.1⟩
        have t1 : (kd == 1) = false := by rw [beq_eq_false_iff_ne]; exact h1
        clear h1
        by_cases h2 : kd = 2
        · have t2 : (kd == 2) = true := by rw [h2]; rfl
          obtain ⟨C, hC⟩ : ∃ C, prH s to' = C := ⟨_, rfl⟩
          have HI2 : Hid (HInv (k + 1) C.2) := Lib.hid (by rw [← hC]; exact HI.out.pr to')
          obtain ⟨cd, s'⟩ := C
          have HC := Lib.hid hC
          have tc : (cd == cd) = true := by simp
          clear hC h2
          go_upto_region 21 with (fail)
          have HH1 := Lib.hid (HH.out.below ((Below.refl _ wa).drew))
          have HA1 := Lib.hid (HH1.out.act (s' := s') (r := .int .i64 cd) (fun vh vn vp h => by have hx := pprep_any hb hb s to' vh vn vp _ h (by have := HI.out.has.2.1; omega); rw [HC.out] at hx; exact hx))
          go_region_held3 (fun w' => w'.cell? ⟨bx, 3, none⟩ = some (.string to')) (first | (with_reducible exact q3) | (with_reducible exact z3) | (with_reducible exact y3) | go_keep) (first
            | (go_at_call 35; refine HA1.out.mono ?_; rintro e w2 ⟨rfl, HF2⟩; have HH2 := Lib.hid HF2; obtain ⟨⟨z0, z1, z2, z3, z4⟩, -⟩ := bx5 HF2.2)
            | (go_at_call 36; refine (HH2.out.ract (s' := s') (r := .int .i64 cd) (fun bh mn vl h => by have hx := rprep_any BR mb bh s to' mn vl _ h HI.out.has.1 (by have := HI.out.has.2.1; omega); rw [HC.out] at hx; exact hx)).mono ?_; rintro e w3 ⟨rfl, HF3⟩; have HH3 := Lib.hid HF3; obtain ⟨⟨y0, y1, y2, y3, y4⟩, -⟩ := bx5 HF3.2))
          go_wp2_with fail
          go_meet
          exact ⟨rfl, s', HI2.out, HH3.out.1⟩
        have t2 : (kd == 2) = false := by rw [beq_eq_false_iff_ne]; exact h2
        clear h2
        by_cases h3 : kd = 3
        · have t3 : (kd == 3) = true := by rw [h3]; rfl
          obtain ⟨C, hC⟩ : ∃ C, cpH s x = C := ⟨_, rfl⟩
          have HI2 : Hid (HInv (k + 1) C.2) := Lib.hid (by rw [← hC]; exact HI.out.cp x)
          obtain ⟨⟨cd, ce⟩, s'⟩ := C
          have HC := Lib.hid hC
          have tc : (cd == cd) = true := by simp
          have te : (ce == ce) = true := by simp
          clear hC h3
          go_wp2_with fail
          refine (HH.out.act (s' := s') (r := .tuple #[.int .i64 cd, .int .i64 ce]) (fun vh vn vp h => by have hx := pcopy_any hb hb s x vh vn vp _ h HI.out.nxt.1 (by have := HI.out.nxt.2.1; omega); rw [HC.out] at hx; exact hx)).mono ?_
          rintro e w2 ⟨rfl, HF2⟩
          have HH2 := Lib.hid HF2
          obtain ⟨⟨z0, z1, z2, z3, z4⟩, -⟩ := bx5 HF2.2
          clear HF2
          go_wp2_with fail
          refine (HH2.out.ract (s' := s') (r := .tuple #[.int .i64 cd, .int .i64 ce]) (fun bh mn vl h => by have hx := rcopy_any BR mb bh s x mn vl _ h HI.out.lft HMN.out (by have := HI.out.nxt.2.1; omega); rw [HC.out] at hx; exact hx)).mono ?_
          rintro e w3 ⟨rfl, HF3⟩
          have HH3 := Lib.hid HF3
          clear HF3
          go_wp2_with fail
          go_meet
          exact ⟨rfl, s', HI2.out, HH3.out.1⟩
        have t3 : (kd == 3) = false := by rw [beq_eq_false_iff_ne]; exact h3
        clear h3
        by_cases h4 : kd = 4
        · have t4 : (kd == 4) = true := by rw [h4]; rfl
          obtain ⟨C, hC⟩ : ∃ C, cuH s = C := ⟨_, rfl⟩
          have HI2 : Hid (HInv (k + 1) C.2) := Lib.hid (by rw [← hC]; exact HI.out.cu)
          obtain ⟨cd, s'⟩ := C
          have HC := Lib.hid hC
          have tc : (cd == cd) = true := by simp
          clear hC h4
          go_wp2_with fail
          refine (HH.out.act (s' := s') (r := .int .i64 cd) (fun vh vn vp h => by have hx := pcut_any hb hb s vh vn vp _ h (by have := HI.out.ep; omega); rw [HC.out] at hx; exact hx)).mono ?_
          rintro e w2 ⟨rfl, HF2⟩
          have HH2 := Lib.hid HF2
          obtain ⟨⟨z0, z1, z2, z3, z4⟩, -⟩ := bx5 HF2.2
          clear HF2
          go_wp2_with fail
          refine (HH2.out.ract (s' := s') (r := .int .i64 cd) (fun bh mn vl h => by have hx := rcut_any BR mb bh s mn vl _ h (by have := HI.out.ep; omega); rw [HC.out] at hx; exact hx)).mono ?_
          rintro e w3 ⟨rfl, HF3⟩
          have HH3 := Lib.hid HF3
          clear HF3
          go_wp2_with fail
          go_meet
          exact ⟨rfl, s', HI2.out, HH3.out.1⟩
        have t4 : (kd == 4) = false := by rw [beq_eq_false_iff_ne]; exact h4
        clear h4
        by_cases h5 : kd = 5
        · have t5 : (kd == 5) = true := by rw [h5]; rfl
          obtain ⟨C, hC⟩ : ∃ C, abH s = C := ⟨_, rfl⟩
          have HI2 : Hid (HInv (k + 1) C.2) := Lib.hid (by rw [← hC]; exact HI.out.ab)
          obtain ⟨cd, s'⟩ := C
          have HC := Lib.hid hC
          have tc : (cd == cd) = true := by simp
          clear hC h5
          go_wp2_with fail
          refine (HH.out.act (s' := s') (r := .int .i64 cd) (fun vh vn vp h => by have hx := pabort_any hb hb s vh vn vp _ h; rw [HC.out] at hx; exact hx)).mono ?_
          rintro e w2 ⟨rfl, HF2⟩
          have HH2 := Lib.hid HF2
          obtain ⟨⟨z0, z1, z2, z3, z4⟩, -⟩ := bx5 HF2.2
          clear HF2
          go_wp2_with fail
          refine (HH2.out.ract (s' := s') (r := .int .i64 cd) (fun bh mn vl h => by have hx := rabort_any BR mb bh s mn vl _ h; rw [HC.out] at hx; exact hx)).mono ?_
          rintro e w3 ⟨rfl, HF3⟩
          have HH3 := Lib.hid HF3
          clear HF3
          go_wp2_with fail
          go_meet
          exact ⟨rfl, s', HI2.out, HH3.out.1⟩
        have t5 : (kd == 5) = false := by rw [beq_eq_false_iff_ne]; exact h5
        clear h5
        by_cases h6 : kd = 6
        · have t6 : (kd == 6) = true := by rw [h6]; rfl
          obtain ⟨s', hC⟩ : ∃ C, crH s = C := ⟨_, rfl⟩
          have HI2 : Hid (HInv (k + 1) s') := Lib.hid (by rw [← hC]; exact HI.out.cr.more)
          have HC := Lib.hid hC
          clear hC h6
          go_wp2_with fail
          refine (HH.out.act (s' := s') (r := .tuple #[]) (fun vh vn vp h => by have hx := pcrash_any hb hb s vh vn vp _ h; rw [HC.out] at hx; exact hx)).mono ?_
          rintro e w2 ⟨rfl, HF2⟩
          have HH2 := Lib.hid HF2
          obtain ⟨⟨z0, z1, z2, z3, z4⟩, -⟩ := bx5 HF2.2
          clear HF2
          go_wp2_with fail
          refine (HH2.out.ract (s' := s') (r := .tuple #[]) (fun bh mn vl h => by have hx := rcrash_any BR mb bh s mn vl _ h; rw [HC.out] at hx; exact hx)).mono ?_
          rintro e w3 ⟨rfl, HF3⟩
          have HH3 := Lib.hid HF3
          clear HF3
          go_wp2_with fail
          go_meet
          exact ⟨rfl, s', HI2.out, HH3.out.1⟩
        have t6 : (kd == 6) = false := by rw [beq_eq_false_iff_ne]; exact h6
        clear h6
        obtain ⟨vh, vn, vp, hp⟩ := HH.out.pro
        have HP := Lib.hid hp
        clear hp
        by_cases he : ep = s.e
        · have hrd := pread_any hb hb s ep vh vn vp wa HP.out (by have := HI.out.has.2.1; omega)
          rw [if_neg (fun h => h he), if_neg (fun h => h he)] at hrd
          have te : (ep != s.e) = false := by rw [he]; simp
          have HRD := Lib.hid hrd
          have HE := Lib.hid he
          clear hrd he
          go_wp2_with fail
          refine HRD.out.mono ?_
          rintro e w2 ⟨v', rfl, hv', hb2⟩
          have HH2 := Lib.hid (HH.out.below hb2)
          have HV := Lib.hid hv'
          obtain ⟨⟨z0, z1, z2, z3, z4⟩, -⟩ := bx5 HH2.out.2
          obtain ⟨bh2, mn2, vl2, hr2⟩ := HH2.out.ref
          obtain ⟨⟨r0, r1, r2, r3, r4, r5⟩, -⟩ := bx6 hr2.box
          have HR2 := Lib.hid hr2
          clear hb2 hv' hr2
          go_upto_region 15 with (fail)
          go_quiet (fail)
          have hbq : Below w2.heap.size w2 (w2.drewN nq) := below_drewN (Below.refl _ _) _
          have HH3 := Lib.hid (HH2.out.below hbq)
          have HV3 := Lib.hid (HV.out.below hbq)
          have HR3 := Lib.hid (HR2.out.below hbq)
          clear hbq z0 z1 z2 z3 z4 r0 r1 r2 r3 r4 r5
          generalize w2.drewN nq = wq at *
          obtain ⟨⟨r0, r1, r2, r3, r4, r5⟩, -⟩ := bx6 HR3.out.box
          go_wp2_with fail
          refine (inorder_any bh2 s.has _ HR3.out.has HI.out.has.1 (by have := HI.out.has.2.1; omega)).mono ?_
          rintro e w3 ⟨u', rfl, hown, hb3⟩
          have HU := Lib.hid (own_sl hown)
          have HH4 := Lib.hid (HH3.out.below hb3)
          have HV4 := Lib.hid (HV3.out.below hb3)
          clear hown hb3
          go_wp2_with fail
          refine (equal64_any v' u' s.has _ HV4.out HU.out).mono ?_
          rintro e w4 ⟨rfl, q, rfl⟩
          have HH5 := Lib.hid (HH4.out.below (below_drewN (Below.refl _ w3) q))
          go_wp2_with fail
          go_meet
          exact ⟨rfl, s, HI.out.more, HH5.out.1⟩
        · have hrd := pread_any hb hb s ep vh vn vp wa HP.out (by have := HI.out.has.2.1; omega)
          rw [if_pos he, if_pos he] at hrd
          have te : (ep != s.e) = true := by simpa using he
          have HRD := Lib.hid hrd
          have HE := Lib.hid he
          clear hrd he
          go_wp2_with fail
          refine HRD.out.mono ?_
          rintro e w2 ⟨v', rfl, hv', hb2⟩
          have HH2 := Lib.hid (HH.out.below hb2)
          obtain ⟨ro, rc, rfl, -, -⟩ := hv'.shape
          obtain ⟨⟨z0, z1, z2, z3, z4⟩, -⟩ := bx5 HH2.out.2
          obtain ⟨bh2, mn2, vl2, hr2⟩ := HH2.out.ref
          obtain ⟨⟨r0, r1, r2, r3, r4, r5⟩, -⟩ := bx6 hr2.box
          clear hb2 hv' hr2
          go_upto_region 15 with (fail)
          go_quiet (fail)
          have hbq : Below w2.heap.size w2 (w2.drewN nq) := below_drewN (Below.refl _ _) _
          have HH3 := Lib.hid (HH2.out.below hbq)
          clear hbq
          go_wp2_with fail
          go_meet
          exact ⟨rfl, s, HI.out.more, HH3.out.1⟩
      obtain ⟨rfl, s', hi', ht'⟩ := hcut
      have HI2 := Lib.hid hi'
      have HT2 := Lib.hid ht'
      clear hi' ht'
      obtain ⟨vh, vn, vp, hp⟩ := HT2.out.pro
      obtain ⟨bh2, mn, vl, hr⟩ := HT2.out.ref
      obtain ⟨lo, lc, rfl, -, -⟩ := hr.lft.shape
      obtain ⟨⟨r0, r1, r2, r3, r4, r5⟩, -⟩ := bx6 hr.box
      have HP2 := Lib.hid (hp.below ((Below.refl _ wc).drew))
      have HR2 := Lib.hid (hr.below ((Below.refl _ wc).drew))
      have HTD := Lib.hid (HT2.out.below ((Below.refl _ wc).drew))
      clear hp hr q0 q1 q2 q3 q4
      go_upto_region 33 with (fail)
      go_region_held3 (fun w' => w'.cell? ⟨mb, 0, none⟩ = some (.int .i64 s'.e) ∧ w'.cell? ⟨mb, 1, none⟩ = some (.string s'.o) ∧ w'.cell? ⟨mb, 2, none⟩ = some (.string s'.t) ∧ w'.cell? ⟨mb, 5, none⟩ = some (.slice lo s'.left.length lc)) (first | (with_reducible exact ⟨r0, r1, r2, r5⟩) | (with_reducible exact ⟨z0, z1, z2, z5⟩) | go_keep) (first
        | (go_at_call 48; refine (pview_any hb hb s' vh vn vp _ HP2.out).mono ?_; rintro e w2 ⟨rfl, hb2⟩; have HB2 := Lib.hid hb2; have HR3 := Lib.hid (HR2.out.below hb2); have HT3 := Lib.hid (HTD.out.below hb2); obtain ⟨⟨z0, z1, z2, z3, z4, z5⟩, -⟩ := bx6 HR3.out.box))
      go_wp2_with fail
      go_roundw
      case rel => exact ⟨k + 1, s', by omega, by go_num, HI2, HT3⟩
      case measure => simp [intOf]; omega
    · obtain rfl : k = n := by omega
      have hbw : Below w.heap.size w wr := by
        obtain ⟨vh, vn, vp, bh', mn, vl, q1, q2, q3, q4, q5⟩ := HT.out
        rw [hhb]; exact q4
      go_wp2_with fail
      go_ret
      exact ⟨rfl, hbw⟩
end Go.Proofs.Ytcljeedmiobepaa.HandPlays
