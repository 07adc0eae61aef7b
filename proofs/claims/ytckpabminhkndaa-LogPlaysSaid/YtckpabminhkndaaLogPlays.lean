/-
  The walk of the law LogPlays.
-/
import Derived.Test.YtckpabminhkndaaActs
import Derived.Deep.CutBlock
namespace Go.Proofs.Ytckpabminhkndaa.LogPlays
open Go.RowKit Go.Gh Go.WideShapes Go.Proofs.Ytckpabminhkndaa.Bits Go.Proofs.Ytckpabminhkndaa.Log Go.Proofs.Ytckpabminhkndaa.Disk
set_option linter.unusedVariables false
theorem new_any (w : World) : Calls Try.prog 26 #[] w fun e w' => e = .returned (.pointer (some ⟨w.heap.size, 0, none⟩)) ∧ w' = w.alloc (.cells #[.slice none 0 0, .int .i64 0] 65) := by
  go_enter Try.func26, Try.ntmps26
  go_wp2_with fail
  go_ret
  exact ⟨rfl, rfl⟩
/-- Two disks that hold the same. -/
def Two (w : World) (B h hm : Nat) (w' : World) : Prop := ∃ D s u um, D.length ≤ 30000 ∧ DK w' 65 B h u D s ∧ DK w' 47 B hm um D s ∧ (∀ b, u.ownBlock = some b → um.ownBlock ≠ some b) ∧ Below B w w'
theorem putS_le {D l : List Int} (h : D.length ≤ 30000) : (putS D l).2.length ≤ 30000 := by
  unfold putS
  split
  · exact h
  · split
    · exact h
    · show (D ++ frm l).length ≤ 30000
      rw [List.length_append]; omega
theorem crS_le {D : List Int} {s : Nat} {k : Int} (h : D.length ≤ 30000) : (crS D s k).2.1.length ≤ 30000 := by
  unfold crS
  split
  · exact h
  · show (D.take _).length ≤ 30000
    rw [List.length_take]; omega
theorem Two.below {w w1 w2 : World} {B h hm : Nat} (H : Two w B h hm w1) (hb : Below w1.heap.size w1 w2) : Two w B h hm w2 := by
  obtain ⟨D, s, u, um, hD, h1, h2, h3, h4⟩ := H
  have := lt_of_some h1.1
  have := h1.2.2.1
  exact ⟨D, s, u, um, hD, h1.below hb, h2.below hb, h3, h4.trans (hb.mono (by omega))⟩
/-- Both disks, an act's box beside them. -/
def Half (w : World) (B h hm bx : Nat) (cs : Array Value) (D : List Int) (s : Nat) (Dm : List Int) (sm : Nat) (u um : Value) (w' : World) : Prop :=
  DK w' 65 B h u D s ∧ DK w' 47 B hm um Dm sm ∧ (∀ b, u.ownBlock = some b → um.ownBlock ≠ some b) ∧ Below B w w' ∧ w'.heap[bx]? = some (.cells cs 52 (0, 0))
section
variable {w wa w' : World} {B h hm bx s sm s' : Nat} {cs : Array Value} {D Dm D' : List Int} {u um : Value}
theorem Half.below (H : Half w B h hm bx cs D s Dm sm u um wa) (hb : Below wa.heap.size wa w') (hB : B ≤ wa.heap.size) : Half w B h hm bx cs D s Dm sm u um w' := by
  obtain ⟨h1, h2, h3, h4, h5⟩ := H
  exact ⟨h1.below hb, h2.below hb, h3, h4.trans (hb.mono hB), (hb.block bx (lt_of_some h5)).trans h5⟩
theorem Half.sizeB (H : Half w B h hm bx cs D s Dm sm u um wa) : B ≤ wa.heap.size := by
  obtain ⟨h1, h2, h3, h4, h5⟩ := H
  have := lt_of_some h1.1
  have := h1.2.2.1
  omega
theorem box_lies {T : TypeId} (h1 : DK wa T B h u D s) (h5 : wa.heap[bx]? = some (.cells cs 52 (0, 0))) (hT : T ≠ 52) {u' : Value} (hl : Lies wa w' h u u') : w'.heap[bx]? = some (.cells cs 52 (0, 0)) := by
  refine (hl.2.1 bx (lt_of_some h5) ?_ (own_block_ne h1.2.1 h5 (by decide))).trans h5
  rintro rfl
  have := h1.1
  rw [h5] at this
  injection this with this
  injection this with _ this _
  exact hT this.symm
theorem Half.real (H : Half w B h hm bx cs D s Dm sm u um wa) (hp : DKPost wa 65 B h u D' s' w') : ∃ u', Half w B h hm bx cs D' s' Dm sm u' um w' := by
  obtain ⟨h1, h2, h3, h4, h5⟩ := H
  obtain ⟨u', p1, p2, p3⟩ := hp
  obtain ⟨q1, q2⟩ := DK.other h1 h2 (by decide) (by decide) (by decide) h3 p3
  exact ⟨u', p1, q1, q2, h4.trans p2, box_lies h1 h5 (by decide) p3⟩
theorem Half.doc (H : Half w B h hm bx cs D s Dm sm u um wa) (hp : DKPost wa 47 B hm um D' s' w') : ∃ um', Half w B h hm bx cs D s D' s' u um' w' := by
  obtain ⟨h1, h2, h3, h4, h5⟩ := H
  obtain ⟨u', p1, p2, p3⟩ := hp
  obtain ⟨q1, q2⟩ := DK.other h2 h1 (by decide) (by decide) (by decide) (fun b hb hb2 => h3 b hb2 hb) p3
  exact ⟨u', q1, p1, fun b hb hb2 => q2 b hb2 hb, h4.trans p2, box_lies h2 h5 (by decide) p3⟩
theorem Half.two (H : Half w B h hm bx cs D s D s u um wa) (hD : D.length ≤ 30000) : Two w B h hm wa := by
  obtain ⟨h1, h2, h3, h4, _⟩ := H
  exact ⟨D, s, u, um, hD, h1, h2, h3, h4⟩
theorem box6 {T : TypeId} {a b c d e f : Value} (h : w.heap[bx]? = some (.cells #[a, b, c, d, e, f] T (0, 0))) : w.cell? ⟨bx, 0, none⟩ = some a ∧ w.cell? ⟨bx, 1, none⟩ = some b ∧ w.cell? ⟨bx, 2, none⟩ = some c := ⟨(row_cell 0 a h rfl).1, (row_cell 1 b h rfl).1, (row_cell 2 c h rfl).1⟩
end
set_option maxHeartbeats 8000000 in
set_option maxRecDepth 100000 in
theorem walk (v : Value) (w : World) (hv : IsActs w v) :
    Calls Try.prog 6 #[v] w fun e w' => e = .returned (.bool true) ∧ Below w.heap.size w w' := by
  obtain ⟨ao, n, c, rfl, hnc, hc, hact⟩ := hv
  have HA := Lib.hid hact
  clear hact
  by_cases hbig : 40 < n
  · go_enter Try.func6, Try.ntmps6
    go_wp2_with fail
    go_ret
    exact ⟨rfl, Below.refl _ _⟩
  go_enter Try.func6, Try.ntmps6
  go_wp2_with fail
  refine (new_any _).mono ?_
  rintro e w1 ⟨rfl, rfl⟩
  go_wp2_with fail
  have H0 : Hid (Two w w.heap.size w.heap.size (w.heap.size + 1) ((w.alloc (.cells #[.slice none 0 0, .int .i64 0] 65)).alloc (.cells #[.slice none 0 0, .int .i64 0] 47))) := Lib.hid (by
    refine ⟨[], 0, .slice none 0 0, .slice none 0 0, by decide, ⟨two_first _ _ _, World.ownsRow_nil _ _ _ _, Nat.le_refl _, fun z hz => by simp at hz, by decide⟩, ⟨two_second _ _ _, World.ownsRow_nil _ _ _ _, Nat.le_succ _, fun z hz => by simp at hz, by decide⟩, fun b hb => by simp [Value.ownBlock] at hb, ?_⟩
    exact ((Below.refl _ _).alloc (Nat.le_refl _) _).alloc (by simp) _)
  generalize hh : w.heap.size = h at *
  generalize hhm : h + 1 = hm at *
  go_loopw [17] (fun i wx => ∃ k : Nat, k ≤ n ∧ i = .int .i64 k ∧ Hid (Two w h h hm wx)) (fun i _ => n - (intOf i).toNat)
  case atStart => exact ⟨0, by omega, rfl, H0⟩
  case round =>
    obtain ⟨k, hk, rfl, HT⟩ := hrel
    by_cases hlt : k < n
    · obtain ⟨b, off, kd, kp, rv, r, lv, x, y, rfl, hat⟩ := HA.out k hlt
      have HTB : Below h w wr := by obtain ⟨_, _, _, _, _, _, _, _, h'⟩ := HT.out; exact h'
      have HAT := Lib.hid (hat.below (by rw [hh]; exact HTB))
      obtain ⟨⟨a0, a1, a2, a3, a4, a5⟩, ⟨lo, ln, lc, rfl⟩, hkp, hrs, hrb⟩ := HAT.out
      obtain ⟨ro, rc, hrv, _⟩ := hrs.shape
      subst hrv
      have HRS : Hid (∀ wX, Below h w wX → Sl wX 1 (.slice ro r.length rc) r.length (r.map (Value.int .u8))) := Lib.hid (fun wX hb => hat.2.2.2.1.below (by rw [hh]; exact hb))
      have HRB := Lib.hid hrb
      clear hrs hrb hat
      obtain ⟨D, s, u, um, hD, hd1, hd2, hdf, hbl⟩ := HT.out
      have hszr : h ≤ wr.heap.size := Nat.le_of_lt (lt_of_some hd1.1)
      obtain ⟨bx, hbx⟩ : ∃ bx, wr.heap.size = bx := ⟨_, rfl⟩
      have hba : Below wr.heap.size wr (wr.alloc (.cells #[.int .i64 kd, .int .i64 kp, .slice ro r.length rc, .slice lo ln lc, .int .i64 x, .int .i64 y] 52)) := (Below.refl _ _).alloc (Nat.le_refl _) _
      have hboxa := heap_alloc_new wr (.cells #[.int .i64 kd, .int .i64 kp, .slice ro r.length rc, .slice lo ln lc, .int .i64 x, .int .i64 y] 52)
      rw [hbx] at hboxa
      have HH : Hid (Half w h h hm bx #[.int .i64 kd, .int .i64 kp, .slice ro r.length rc, .slice lo ln lc, .int .i64 x, .int .i64 y] D s D s u um (wr.alloc (.cells #[.int .i64 kd, .int .i64 kp, .slice ro r.length rc, .slice lo ln lc, .int .i64 x, .int .i64 y] 52))) := Lib.hid ⟨hd1.below hba, hd2.below hba, hdf, hbl.trans (hba.mono hszr), hboxa⟩
      clear hd1 hd2 hdf hbl hba hboxa
      go_upto_region 8 with (fail)
      generalize wr.alloc (.cells #[.int .i64 kd, .int .i64 kp, .slice ro r.length rc, .slice lo ln lc, .int .i64 x, .int .i64 y] 52) = wa at *
      obtain ⟨q0, q1, q2⟩ := box6 HH.out.2.2.2.2
      clear a0 a1 a2 a3 a4 a5 hbx
      go_upto_block 2 with fail
      go_cut [] (fun wx => Two w h h hm wx)
      case first =>
        by_cases h1 : kd = 1
        · have t1 : (kd == 1) = true := by rw [h1]; rfl
          obtain ⟨C, hC⟩ : ∃ C, putS D r = C := ⟨_, rfl⟩
          obtain ⟨cd, D2⟩ := C
          have HC := Lib.hid hC
          have tc : (cd != cd) = false := by simp
          have hD2 : D2.length ≤ 30000 := by have := putS_le (l := r) hD; rw [hC] at this; exact this
          clear hC h1
          go_upto_region 12 with (fail)
          have hB := HH.out.sizeB
          have hdr : Below wa.heap.size wa wa.drew := (Below.refl _ _).drew
          have HH1 := Lib.hid (HH.out.below hdr hB)
          have HB1 : Hid (h ≤ wa.drew.heap.size) := Lib.hid HH1.out.sizeB
          have HSR := Lib.hid (HRS.out _ HH1.out.2.2.2.1)
          go_region_held3 (fun w' => w'.cell? ⟨bx, 2, none⟩ = some (.slice ro r.length rc)) (first | (with_reducible exact q2) | (with_reducible exact z2) | (with_reducible exact y2) | go_keep) (first
            | (go_at_call 27; refine (append_any _ u _ h h s r D _ HSR.out rfl HRB.out HH1.out.1 hD HB1.out).mono ?_; rintro e w2 ⟨rfl, hp2⟩; rw [HC.out] at hp2 ⊢; obtain ⟨u2', HF2⟩ := HH1.out.real hp2; have HH2 := Lib.hid HF2; obtain ⟨z0, z1, z2⟩ := box6 HF2.2.2.2.2)
            | (go_at_call 28; refine (rappend_any _ um _ h hm s r D _ (HRS.out _ HH2.out.2.2.2.1) rfl HRB.out HH2.out.2.1 hD HH2.out.sizeB).mono ?_; rintro e w3 ⟨rfl, hp3⟩; rw [HC.out] at hp3 ⊢; obtain ⟨um3, HF3⟩ := HH2.out.doc hp3; have HH3 := Lib.hid HF3; obtain ⟨y0, y1, y2⟩ := box6 HF3.2.2.2.2))
          go_wp2_with fail
          go_meet
          exact HH3.out.two hD2
        have t1 : (kd == 1) = false := by rw [beq_eq_false_iff_ne]; exact h1
        clear h1
        by_cases h2 : kd = 2
        · have t2 : (kd == 2) = true := by rw [h2]; rfl
          clear h2
          go_upto_region 15 with (fail)
          have hB := HH.out.sizeB
          obtain ⟨u2', HF2⟩ := HH.out.real (synced HH.out.1 (by decide) D.length (Nat.le_refl _) hB)
          have HH2 := Lib.hid HF2
          clear HF2
          go_wp2_with fail
          refine (sync_any u h h s D _ HH.out.1 (by omega)).mono ?_
          rintro e w2 ⟨rfl, hq⟩
          rw [← hq] at HH2
          obtain ⟨um', HF3⟩ := HH2.out.doc (synced HH2.out.2.1 (by decide) D.length (Nat.le_refl _) HH2.out.sizeB)
          have HH3 := Lib.hid HF3
          obtain ⟨m0, m1, g0, g1⟩ := box2 HH2.out.2.1.1
          obtain ⟨mo, mc, rfl, _⟩ := own_shape HH2.out.2.1.2.1
          clear HF3 hq
          go_wp2_with fail
          go_meet
          exact HH3.out.two hD
        · have t2 : (kd == 2) = false := by rw [beq_eq_false_iff_ne]; exact h2
          clear h2
          obtain ⟨C, hC⟩ : ∃ C, crS D s kp = C := ⟨_, rfl⟩
          obtain ⟨cd, D2, s2⟩ := C
          have HC := Lib.hid hC
          have tc : (cd != cd) = false := by simp
          have hD2 : D2.length ≤ 30000 := by have := crS_le (s := s) (k := kp) hD; rw [hC] at this; exact this
          clear hC
          go_upto_region 9 with (fail)
          have hB := HH.out.sizeB
          have hdr : Below wa.heap.size wa wa.drew := (Below.refl _ _).drew
          have HH1 := Lib.hid (HH.out.below hdr hB)
          have HB1 : Hid (h ≤ wa.drew.heap.size) := Lib.hid HH1.out.sizeB
          have HKP := Lib.hid hkp
          clear hkp
          go_region_held3 (fun w' => w'.cell? ⟨bx, 1, none⟩ = some (.int .i64 kp)) (first | (with_reducible exact q1) | (with_reducible exact z1) | (with_reducible exact y1) | go_keep) (first
            | (go_at_call 30; refine (crash_any u h h s D kp _ HH1.out.1 (by omega) HB1.out HKP.out.1 HKP.out.2).mono ?_; rintro e w2 ⟨rfl, hp2⟩; rw [HC.out] at hp2 ⊢; obtain ⟨u2', HF2⟩ := HH1.out.real hp2; have HH2 := Lib.hid HF2; obtain ⟨z0, z1, z2⟩ := box6 HF2.2.2.2.2)
            | (go_at_call 31; refine (rcrash_any um h hm s D kp _ HH2.out.2.1 (by omega) HH2.out.sizeB HKP.out.1 HKP.out.2).mono ?_; rintro e w3 ⟨rfl, hp3⟩; rw [HC.out] at hp3 ⊢; obtain ⟨um3, HF3⟩ := HH2.out.doc hp3; have HH3 := Lib.hid HF3; obtain ⟨y0, y1, y2⟩ := box6 HF3.2.2.2.2))
          go_wp2_with fail
          go_meet
          exact HH3.out.two hD2
      obtain ⟨D', s', u', um', hD', hd1', hd2', hdf', hbl'⟩ := hcut
      have HT2 : Hid (Two w h h hm wc) := Lib.hid ⟨D', s', u', um', hD', hd1', hd2', hdf', hbl'⟩
      go_upto_region 17 with (fail)
      have hdr : Below wc.heap.size wc wc.drew := (Below.refl _ _).drew
      have HD1 := Lib.hid (hd1'.below hdr)
      have HD2 := Lib.hid (hd2'.below hdr)
      have hwfD := Lib.hid (bytesL_wf hd1'.2.2.2.1)
      have q3 := (box2 hd2'.1).1
      have HDR := Lib.hid hdr
      have HDL := Lib.hid hD'
      clear hd1' hd2' hdf' hbl' hdr q0 q1 q2
      go_region_held3 (fun w' => w'.cell? ⟨hm, 0, none⟩ = some um') (first | (with_reducible exact q3) | (with_reducible exact z3) | go_keep) (first
        | (go_at_call 32; refine (bytes_any u' h h s' D' _ HD1.out HDL.out).mono ?_; rintro e w2 ⟨bv, rfl, hbv, hb2⟩; have HBV := Lib.hid (own_sl hbv); have HB2 := Lib.hid hb2; have HD3 := Lib.hid (HD2.out.below hb2); have z3 := (box2 HD3.out.1).1)
        | (go_at_call 13; refine (equal_any bv um' _ _ _ _ w2 HBV.out (own_sl HD3.out.2.1) hwfD.out hwfD.out).mono ?_; rw [show decide (D' = D') = true from by simp]; rintro e w4 ⟨rfl, rfl⟩))
      have HTW : Hid (Two w h h hm w2) := Lib.hid (HT2.out.below (HDR.out.trans (HB2.out.mono (Nat.le_refl wc.heap.size))))
      go_wp2_with fail
      go_roundw
      case rel => exact ⟨k + 1, by omega, by go_num, HTW⟩
      case measure => simp [intOf]; omega
    · obtain rfl : k = n := by omega
      obtain ⟨D, s, u, um, hD, hd1, hd2, hdf, hbl⟩ := HT.out
      have HD1 := Lib.hid hd1
      have HD2 := Lib.hid hd2
      have HDL := Lib.hid hD
      have HBL := Lib.hid hbl
      obtain ⟨q3, _, f3, _⟩ := box2 hd2.1
      have HSM := Lib.hid (own_sl hd2.2.1)
      have hszr : h ≤ wr.heap.size := Nat.le_of_lt (lt_of_some hd1.1)
      clear hd1 hd2 hdf hD hbl
      go_wp2_with fail
      refine (frames_any um D.length D _ HSM.out rfl HD2.out.2.2.2.1 (by have := HDL.out; omega)).mono ?_
      rintro e w2 ⟨fu, fvs, rfl, hfu, hfr, hb2⟩
      have HFU := Lib.hid hfu
      have HFR := Lib.hid hfr
      have HB2 := Lib.hid hb2
      have HD3 := Lib.hid (HD1.out.below hb2)
      clear hfu hfr hb2 q3 f3
      go_wp2_with fail
      refine (records_any u h h s D _ HD3.out HDL.out).mono ?_
      rintro e w3 ⟨ru, rvs, rfl, hru, hrr, hb3⟩
      have HSB := Lib.hid (Go.Proofs.Ytckpabminhkndaa.LogTells.sameb_any ru fu _ _ _ rvs fvs _ w3 hru (HFU.out.below hb3) hrr (HFR.out.below hb3))
      have HFIN : Hid (Below h w w3) := Lib.hid (HBL.out.trans ((HB2.out.trans (hb3.mono HB2.out.size)).mono hszr))
      clear hru hrr hb3
      go_wp2_with fail
      refine HSB.out.mono ?_
      rintro e w4 ⟨rfl, rfl⟩
      go_wp2_with fail
      go_ret
      exact ⟨rfl, by rw [hh]; exact HFIN.out⟩
end Go.Proofs.Ytckpabminhkndaa.LogPlays
