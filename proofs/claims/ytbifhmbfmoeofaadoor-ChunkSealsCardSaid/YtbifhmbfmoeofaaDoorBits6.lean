/-
  The walks of SameBits, Unpacked, Packed.
-/
import Derived.Test.YtbifhmbfmoeofaaDoorBits4
import Derived.WalkSpells
namespace Go.Proofs.YtbifhmbfmoeofaaDoor.Bits
open Go.RowKit Go.Gh Go.WideShapes
set_option linter.unusedVariables false

def sameB (l l' : List Int) (N N' : Int) : Bool := decide (l = l' ∧ N = N')
theorem same_step {l l' : List Int} {k : Nat} (h : Hid (l.take k = l'.take k)) (h1 : k < l.length) (h2 : k < l'.length) (he : l.getD k 0 = l'.getD k 0) : Hid (l.take (k + 1) = l'.take (k + 1)) := by
  show _ = _
  rw [List.take_succ_eq_append_getElem h1, List.take_succ_eq_append_getElem h2, h.out]
  rw [List.getD_eq_getElem?_getD, List.getD_eq_getElem?_getD, List.getElem?_eq_getElem h1, List.getElem?_eq_getElem h2] at he
  rw [show l[k] = l'[k] from by simpa using he]

set_option maxHeartbeats 1000000 in
theorem samebits_any (v v' : Value) (l l' : List Int) (N N' : Int) (w : World) (hv : BitsV w v l N) (hv' : BitsV w v' l' N') :
    Calls Tryd.prog 18 #[v, v'] w fun e w' => e = .returned (.bool (sameB l l' N N')) ∧ Below w.heap.size w w' := by
  obtain ⟨b, n, rfl, hs, hl, hwf, hn, hN0, hN1⟩ := hv
  obtain ⟨b', n', rfl, hs', hl', hwf', hn', hN0', hN1'⟩ := hv'
  obtain ⟨ao, c, rfl, hnc, hc, hlen⟩ := hs.shape
  obtain ⟨ao', c', rfl, hnc', hc', hlen'⟩ := hs'.shape
  have hlen : l.length = n := by simpa using hlen
  have hlen' : l'.length = n' := by simpa using hlen'
  by_cases h1 : N = N'
  · by_cases h2 : n = n'
    · have HL := Lib.hid hlen
      have HL' := Lib.hid hlen'
      clear hlen hlen'
      subst h1 h2
      have t1 : (N != N) = false := by simp
      have t2 : ((n : Int) != (n : Int)) = false := by simp
      go_enter Tryd.func18, Tryd.ntmps18
      go_wp2_with fail
      refine wp_abs (fun w1 => Sl w1 1 (.slice ao n c) n (l.map (Value.int .u8)) ∧ Sl w1 1 (.slice ao' n c') n (l'.map (Value.int .u8)) ∧ w1.cell? ⟨w.heap.size, 0, none⟩ = some (.slice ao n c) ∧ w1.cell? ⟨w.heap.size + 1, 0, none⟩ = some (.slice ao' n c') ∧ Below w.heap.size w w1 ∧ w.heap.size + 1 < w1.heap.size)
        ⟨(hs.alloc _).alloc _, (hs'.alloc _).alloc _, ?_, ?_, ((Below.refl _ _).alloc (Nat.le_refl _) _).alloc (by simp) _, by simp⟩ ?_
      · exact (((Below.refl _ _).alloc (Nat.le_refl _) _).cell (p := ⟨w.heap.size, 0, none⟩) (by simp)).trans (box2 w _ _ _).1
      · simp
      rintro w1 ⟨hs1, hs1', hb0, hb1, hbel, hsz⟩
      go_loopw [4, 23] (fun r i wr => ∃ k : Nat, k ≤ n ∧ i = .int .i64 k ∧ r = .bool false ∧ Below w1.heap.size w1 wr ∧ Hid (l.take k = l'.take k)) (fun _ i _ => n - (intOf i).toNat)
      case atStart => exact ⟨0, by omega, rfl, rfl, Below.refl _ _, rfl⟩
      case round =>
        obtain ⟨k, hk, rfl, rfl, hbr, htk⟩ := hrel
        by_cases hlt : k < n
        · obtain ⟨b, off, z, rfl, hcell, hz0, hz1, HZ⟩ := (hs1.below hbr).byte hwf hlt
          obtain ⟨b', off', z', rfl, hcell', hz0', hz1', HZ'⟩ := (hs1'.below hbr).byte hwf' hlt
          have c0 : wr.cell? ⟨w.heap.size, 0, none⟩ = some (.slice (some ⟨b, off, none⟩) n c) := (hbr.cell (by show w.heap.size < _; omega)).trans hb0
          have c1 : wr.cell? ⟨w.heap.size + 1, 0, none⟩ = some (.slice (some ⟨b', off', none⟩) n c') := (hbr.cell (by show w.heap.size + 1 < _; omega)).trans hb1
          have hk1 : (k : Int) < n := by omega
          by_cases hzz : z = z'
          · have HS := same_step htk (by rw [HL.out]; exact hlt) (by rw [HL'.out]; exact hlt) (by rw [HZ.out, HZ'.out, hzz])
            have t3 : (z != z') = false := by simp [hzz]
            clear hzz
            go_wp2
            go_quiet (fail)
            go_wp2
            go_roundw
            case rel => exact ⟨k + 1, by omega, by go_num, rfl, by first | exact hbr | exact hbr.drew | exact below_drewN hbr _, HS⟩
            case measure => simp [intOf]; omega
          · have HF : Hid (sameB l l' N N = false) := by
              show _ = _
              apply decide_eq_false
              rintro ⟨rfl, _⟩
              exact hzz (HZ.out.symm.trans HZ'.out)
            have t3 : (z != z') = true := by simp [hzz]
            clear hzz
            go_wp2
            go_quiet (fail)
            go_wp2
            go_ret
            exact ⟨ret_bool HF.out.symm, hbel.trans ((by first | exact below_drewN hbr _ | exact hbr.drew | exact hbr : Below w1.heap.size w1 _).mono hbel.size)⟩
        · have HT : Hid (sameB l l' N N = true) := by
            show _ = _
            apply decide_eq_true
            refine ⟨?_, rfl⟩
            have := htk.out
            rwa [List.take_of_length_le (by rw [HL.out]; omega), List.take_of_length_le (by rw [HL'.out]; omega)] at this
          go_wp2
          go_ret
          exact ⟨ret_bool HT.out.symm, hbel.trans (hbr.mono hbel.size)⟩
    · have HF : Hid (sameB l l' N N' = false) := by
        show _ = _
        apply decide_eq_false
        rintro ⟨rfl, _⟩
        omega
      clear hlen hlen'
      subst h1
      have t1 : (N != N) = false := by simp
      have t2 : ((n : Int) != (n' : Int)) = true := by rw [bne_iff_ne]; omega
      clear h2
      go_enter Tryd.func18, Tryd.ntmps18
      go_wp2
      go_ret
      exact ⟨ret_bool HF.out.symm, ((Below.refl _ _).alloc (Nat.le_refl _) _).alloc (by simp) _⟩
  · have HF : Hid (sameB l l' N N' = false) := decide_eq_false (fun h => h1 h.2)
    have t1 : (N != N') = true := by rw [bne_iff_ne]; exact h1
    clear hlen hlen' h1
    go_enter Tryd.func18, Tryd.ntmps18
    go_wp2
    go_ret
    exact ⟨ret_bool HF.out.symm, ((Below.refl _ _).alloc (Nat.le_refl _) _).alloc (by simp) _⟩

def sI (s : List Bool) : List Int := s.map fun b => if b then 49 else 48
theorem bstr_sI (s : List Bool) : bstr (sI s) = sbits s := by
  unfold bstr sI sbits
  rw [List.map_map]
  congr 2
  apply List.map_congr_left
  intro b _
  cases b <;> rfl
theorem sI_snoc (s : List Bool) (b : Bool) : sI (s ++ [b]) = sI s ++ [if b then 49 else 48] := by simp [sI]
theorem unpack_snoc (l : List Int) (k : Nat) : unpack l (k + 1) = unpack l k ++ [bitAt l k] := by simp [unpack, List.range_succ]
theorem bit_char (l : List Int) (z : Int) (k : Nat) (h0 : 0 ≤ z) (HZ : Hid (l.getD (k / 8) 0 = z)) : 48 + z / 2 ^ (7 - k % 8) % 2 = if bitAt l k then 49 else 48 := by
  have h := bit_test l z k h0 HZ
  rw [Int.tmod_eq_emod_of_nonneg (Int.ediv_nonneg h0 (Int.le_of_lt (two_pow_pos _)))] at h
  generalize z / 2 ^ (7 - k % 8) = q at *
  rcases (show q % 2 = 0 ∨ q % 2 = 1 by omega) with e | e
  · rw [e] at h ⊢; rw [← h]; rfl
  · rw [e] at h ⊢; rw [← h]; rfl

set_option maxHeartbeats 1000000 in
theorem unpacked_any (v : Value) (l : List Int) (N : Nat) (w : World) (hv : BitsV w v l N) (hok : okB l N) (hN : N ≤ 100000000) :
    Calls Tryd.prog 26 #[v] w fun e w' => e = .returned (.string (sbits (unpack l N))) ∧ Below w.heap.size w w' := by
  obtain ⟨b, n, rfl, hs, hl, hwf, hn, hN0, hN1⟩ := hv
  obtain ⟨ao, c, rfl, hnc, hc, hlen⟩ := hs.shape
  have hlen : l.length = n := by simpa using hlen
  have hNn : N ≤ 8 * n := by have := hok.2.1; omega
  have HL := Lib.hid hlen
  clear hlen hok
  go_enter Tryd.func26, Tryd.ntmps26
  go_upto_region 1 with (fail)
  refine wp_abs (fun w1 => Sl w1 1 (.slice ao n c) n (l.map (Value.int .u8)) ∧ w1.cell? ⟨w.heap.size, 0, none⟩ = some (.slice ao n c) ∧ w1.cell? ⟨w.heap.size, 1, none⟩ = some (.int .i64 N) ∧ Below w.heap.size w w1 ∧ w.heap.size < w1.heap.size) ⟨hs.alloc _, (box2 w _ _ _).1, (box2 w _ _ _).2, (Below.refl _ _).alloc (Nat.le_refl _) _, by simp⟩ ?_
  rintro w1 ⟨hs1, hb0, hb1, hbel0, hsz0⟩
  go_wp2_with (at_make; refine make0 elU8 rfl _ _ rfl .i64 .i64 _ N rfl rfl rfl ?c1 ?c2 (Below.refl w1.heap.size w1) ?c3 ?_)
  case c1 => omega
  case c2 => omega
  case c3 => simp
  intro w2 hown hbel hgr
  have hb1' := (hbel.cell (p := ⟨w.heap.size, 1, none⟩) hsz0).trans hb1
  go_wp2_with fail
  go_loopw [3, 10] (fun v i wr => ∃ (k : Nat), k ≤ N ∧ i = .int .i64 k ∧ wr.ownsRow w1.heap.size 5 1 v k ((sI (unpack l k)).map (Value.int .u8)) ∧ Below w1.heap.size w1 wr) (fun _ i _ => N - (intOf i).toNat)
  case atStart => exact ⟨0, by omega, rfl, hown, hbel⟩
  case round =>
    clear hown hbel hgr
    obtain ⟨k, hk, rfl, hown, hbel⟩ := hrel
    have hsz := hbel.size
    by_cases hlt : k < N
    · obtain ⟨b, off, z, rfl, hcell, hz0, hz1, HZ⟩ := (hs1.below hbel).byte hwf (show k / 8 < n by omega)
      have c0 := (hbel.cell (p := ⟨w.heap.size, 0, none⟩) hsz0).trans hb0
      have hch := Lib.hid (bit_char l z k hz0 HZ)
      have hq : 0 ≤ z / 2 ^ (7 - k % 8) := Int.ediv_nonneg hz0 (Int.le_of_lt (two_pow_pos _))
      go_wp2_with (at_builtin; refine append1 [_] elU8 rfl _ _ rfl hown hbel hsz rfl rfl rfl (one_all _ rfl) ?c4 ?c5 ?_)
      case c4 => omega
      case c5 => omega
      intro v' w2 hown' hbel' _
      rw [hch.out] at hown'
      have hown2 : w2.ownsRow w1.heap.size 5 1 v' (k + 1) ((sI (unpack l (k + 1))).map (Value.int .u8)) := by
        rw [unpack_snoc, sI_snoc, List.map_append]
        exact hown'
      clear hown' hown hbel
      go_wp2
      go_roundw
      case rel => exact ⟨k + 1, by omega, by go_num, hown2, hbel'⟩
      case measure => simp [intOf]; omega
    · obtain rfl : k = N := by omega
      have hcv := run_bytes (dst := 9) Tryd.underlying23 Tryd.underlying5 Tryd.underlying9 (own_sl hown)
      rw [bstr_sI] at hcv
      have hfin := hbel0.trans (hbel.mono hbel0.size)
      clear hown hbel
      go_wp2
      go_ret
      exact ⟨rfl, hfin⟩
end Go.Proofs.YtbifhmbfmoeofaaDoor.Bits
