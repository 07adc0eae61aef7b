/-
  The walk of Packed.
-/
import Derived.Test.YtbifhmbfmoeofaaDoorLib2
import Derived.Test.YtbifhmbfmoeofaaDoorBits6
import Derived.Test.YtbifhmbfmoeofaaDoorBitsLaw3
import Derived.IntWalk
namespace Go.Proofs.YtbifhmbfmoeofaaDoor.Bits
open Go.RowKit Go.Gh Go.WideShapes
set_option linter.unusedVariables false

theorem sbits_pad (s : List Bool) (m : Nat) : sbits (s ++ List.replicate m false) ++ ⟨#[48]⟩ = sbits (s ++ List.replicate (m + 1) false) := by
  rw [show (⟨#[48]⟩ : ByteArray) = sbits [false] from rfl, sbits_append, List.append_assoc, ← List.replicate_succ']
theorem sbits_cut (s : List Bool) (k : Nat) (h : k + 8 ≤ s.length) : (sbits s).extract k (k + 8) = sbits ((s.drop k).take 8) := by
  unfold sbits
  rw [ByteArray.extract_mk, List.map_take, List.map_drop, show k + 8 - k = 8 from by omega]

theorem own_step {w : World} {B g cap : Nat} {L L' : List Int} (j : Nat) (V : Int) (h : w.ownsRow B 5 1 (.slice (some ⟨g, 0, none⟩) (j + 1) cap) (j + 1) (L.map (Value.int .u8) ++ [.int .u8 (IntKind.u8.wrap V)])) (hj : True) (he : L' = L ++ [V]) (h0 : 0 ≤ V) (h1 : V < 256) :
    w.ownsRow B 5 1 (.slice (some ⟨g, 0, none⟩) (j + 1) cap) (j + 1) (L'.map (Value.int .u8)) := by
  rw [he, List.map_append]
  have : IntKind.u8.wrap V = V := by rw [IntKind.wrap_u8']; omega
  rw [this] at h
  exact h
/-- api.Bits in memory of the call's own, or as a value: its bytes are owned. -/
theorem packed_any (s : List Bool) (hn : s.length ≤ 90000) (w : World) :
    Calls Tryd.prog 19 #[.string (sbits s)] w fun e w' => ∃ v, e = .returned (.agg #[v, .int .i64 s.length]) ∧ w'.ownsRow w.heap.size 5 1 v (pack s).length ((pack s).map (Value.int .u8)) ∧ Below w.heap.size w w' := by
  go_enter Tryd.func19, Tryd.ntmps19
  have hsz := sbits_size s
  go_wp2_with fail
  clear hsz
  go_loop [0] (fun x => ∃ (m : Nat) (S : ByteArray), x = .string S ∧ S.size ≤ 100000 ∧ Hid (S = sbits (s ++ List.replicate m false)) ∧ Hid (S.size = s.length + m) ∧ Hid ((s.length + m + 7) / 8 = (s.length + 7) / 8)) (fun x => match x with | .string S => (8 - S.size % 8) % 8 | _ => 0)
  case atStart => exact ⟨0, sbits s, rfl, by rw [sbits_size]; omega, by show _ = _; simp, by show _ = _; rw [sbits_size]; rfl, rfl⟩
  case round =>
    obtain ⟨m, S, rfl, hS1, hS, hSz, hm⟩ := hrel
    by_cases hlt : 0 < S.size % 8
    · have hp : 0 < (S.size : Int) % 8 := by omega
      have hH : Hid (S ++ (⟨#[48]⟩ : ByteArray) = sbits (s ++ List.replicate (m + 1) false)) := by
        show _ = _
        rw [hS.out, sbits_pad]
      have hm2 := hm.out
      have hs2 := hSz.out
      have hM : Hid ((s.length + (m + 1) + 7) / 8 = (s.length + 7) / 8) := by show _ = _; omega
      have hS9 : S.size + 1 ≤ 100000 := by omega
      clear hm2 hs2
      go_wp2
      go_round
      case rel => exact ⟨m + 1, _, rfl, by rw [ByteArray.size_append]; exact hS9, hH, by show _ = _; rw [ByteArray.size_append, hSz.out]; rfl, hM⟩
      case measure =>
        show (8 - (S ++ (⟨#[48]⟩ : ByteArray)).size % 8) % 8 < _
        rw [ByteArray.size_append, show (⟨#[48]⟩ : ByteArray).size = 1 from rfl]
        show _ < (8 - S.size % 8) % 8
        omega
    · have hz : Hid (pack (s ++ List.replicate m false) = pack s) := pack_pad s m hm.out
      have hq : ∃ q, Hid ((s ++ List.replicate m false).length = 8 * q) ∧ Hid (S.size = 8 * q) ∧ q ≤ 12500 ∧ (pack s).length = q := by
        have h1 := hSz.out
        refine ⟨S.size / 8, by show _ = _; simp; omega, by show _ = _; omega, by omega, ?_⟩
        rw [← hz.out, pack_len]; simp; omega
      obtain ⟨q, hq1, hq2, hq3, hq4⟩ := hq
      have HQ := Lib.hid hq4
      clear hq4 hm hSz
      generalize s ++ List.replicate m false = s' at *
      have hp : ¬ 0 < (S.size : Int) % 8 := by omega
      go_wp2_with fail
      refine wp_abs (fun w1 => w1.cell? ⟨w.heap.size, 0, none⟩ = some (.slice none 0 0) ∧ w1.heap[w.heap.size]? = some (.cells #[.slice none 0 0, .int .i64 0] 39 (0, 0)) ∧ w1.heap[w.heap.size + 1]? = some (.cells #[.slice none 0 0, .int .i64 s.length] 39 (0, 0)) ∧ Below w.heap.size w w1 ∧ w.heap.size + 2 ≤ w1.heap.size) ⟨?_, ?_, ?_, ((Below.refl _ _).alloc (Nat.le_refl _) _).alloc (by simp) _, by simp⟩ ?_
      · simp
      · exact two_first w _ _
      · exact two_second w _ _
      rintro w1 ⟨_, hr, hx, hbel, hsz⟩
      go_loopw [4] (fun i wr => ∃ (j k : Nat) (v : Value), j ≤ q ∧ i = .int .i64 k ∧ Hid (k = 8 * j) ∧ wr.ownsRow (w.heap.size + 2) 5 1 v j (((pack s').take j).map (Value.int .u8)) ∧ Below w.heap.size w wr ∧
          wr.heap[w.heap.size]? = some (.cells #[.slice none 0 0, .int .i64 0] 39 (0, 0)) ∧ wr.heap[w.heap.size + 1]? = some (.cells #[v, .int .i64 s.length] 39 (0, 0)) ∧ w.heap.size + 2 ≤ wr.heap.size) (fun i _ => 100000 - (intOf i).toNat)
      case atStart => exact ⟨0, 0, _, by omega, rfl, rfl, World.ownsRow_nil _ _ _ _, hbel, hr, hx, hsz⟩
      case round =>
        clear hr hx hbel hsz
        obtain ⟨j, k, v, hj, rfl, hk, hown, hbel, hr, hx, hsz⟩ := hrel
        by_cases hlt : j < q
        · have h8 : k + 8 ≤ S.size := by have := hq2.out; have := hk.out; omega
          have HX : Hid (S.extract k (k + 8) = sbits ((s'.drop (8 * j)).take 8)) := by show _ = _; rw [hS.out, hk.out]; exact sbits_cut s' (8 * j) (by have := hq1.out; omega)
          have HE := Lib.hid (chunk_eight s' j (by have := hq1.out; omega))
          have hVb := byteAt_bd s' j
          have HV : Hid (valF 0 ((s'.drop (8 * j)).take 8) = byteAt s' j) := by show _ = _; rw [HE.out]; rfl
          have HC : Hid (((s'.drop (8 * j)).take 8).length ≤ 64) := by show _ ≤ _; rw [List.length_take]; omega
          have HPV : Hid ((pack s').take (j + 1) = (pack s').take j ++ [byteAt s' j]) := by
            have hjl : j < (pack s').length := by rw [hz.out, HQ.out]; exact hlt
            show _ = _
            rw [List.take_succ_eq_append_getElem hjl]
            have := pack_get s' j (by rw [← pack_len]; exact hjl)
            rw [List.getD_eq_getElem?_getD, List.getElem?_eq_getElem hjl] at this
            rw [show (pack s')[j] = byteAt s' j from this]
          generalize (s'.drop (8 * j)).take 8 = ch at *
          generalize byteAt s' j = V at *
          obtain ⟨hV0, hV1⟩ := hVb
          have c0 := (row_cell 0 _ hx rfl).1
          have hz1 : w.heap.size + 1 < wr.heap.size := by omega
          have a1 : IntKind.i64.wrap ((k : Int) + 8) = (k : Int) + 8 := IntWalk.i64_in _ (by omega)
          have a2 : 0 ≤ (k : Int) + 8 := by omega
          have a3 : ((k : Int) + 8).toNat = k + 8 := by omega
          have a4 : (k : Int) + 8 ≤ S.size := by omega
          have a5 : (k : Int) ≤ (k : Int) + 8 := by omega
          have h9 : k < S.size := by omega
          go_wp2_with fail
          go_region_law (first
            | (refine step_app1 [_] elU8 rfl _ _ rfl hown.drew hbel.drew (by omega) hsz rfl rfl rfl (one_all _ rfl) (by omega) (by omega) ?_; intro g cap w2 hown' hbel' hgr'; have hx2 := grown_block hown.drew hgr' (by omega) hx; have c2 := (row_cell 0 _ hx2 rfl).1; have f2 := (row_cell 0 _ hx2 rfl).2)
            | (go_simp; go_at_call 37; rw [HX.out]; refine (valueof_any _ HC.out _).mono ?_; rintro e w' ⟨rfl, rfl⟩; rw [HV.out]))
          all_goals
            have hr2 := grown_block hown.drew hgr' (by omega) hr
            have hsz2 := hgr'.size
            have hfin := own_step j V hown' trivial HPV.out hV0 hV1
            have hown3 := ownsRow_setCell_below (a := ⟨w.heap.size + 1, 0, none⟩) hfin (show w.heap.size + 1 < w.heap.size + 2 by omega) (.slice (some ⟨g, 0, none⟩) (j + 1) cap)
            have hx3 := row_setCell 0 (.slice (some ⟨g, 0, none⟩) (j + 1) cap) hx2
            have hr3 := row_setCell_other (i := 0) (.slice (some ⟨g, 0, none⟩) (j + 1) cap) hr2 (show w.heap.size ≠ w.heap.size + 1 by omega)
            have hbel3 := hbel'.setCell (p := ⟨w.heap.size + 1, 0, none⟩) (show w.heap.size ≤ w.heap.size + 1 by omega) (.slice (some ⟨g, 0, none⟩) (j + 1) cap)
            have HK : Hid (k + 8 = 8 * (j + 1)) := by show _ = _; have := hk.out; omega
            have hsz3 : w.heap.size + 2 ≤ w2.heap.size := by simp at hsz2; omega
            clear hown' hbel' hgr' hr hx hown hbel hx2 c2 f2 hr2 hfin a1 a2 a3 a4 a5
            go_wp2
            go_roundw
            case rel => exact ⟨j + 1, k + 8, _, by omega, by go_num, HK, hown3, hbel3, hr3, hx3, by simpa using hsz3⟩
            case measure => simp [intOf]; omega
        · obtain rfl : j = q := by omega
          have HT : Hid ((pack s').take j = pack s) := by
            show _ = _
            rw [List.take_of_length_le (by rw [hz.out, HQ.out]; omega)]; exact hz.out
          have h8 : S.size ≤ k := by have := hq2.out; have := hk.out; omega
          have c0 := (row_cell 0 _ hx rfl).1
          have c1 := (row_cell 1 _ hx rfl).1
          have r0 := (row_cell 0 _ hr rfl).1
          have r1 := (row_cell 1 _ hr rfl).1
          have r0f := (row_cell 0 _ hr rfl).2
          have r1f := (row_cell 1 _ hr rfl).2
          obtain ⟨ao, c, rfl, hc1, hc2, hc3⟩ := (own_sl hown).shape
          have HO := Lib.hid hown
          clear hown
          have hw2 : w.heap.size ≠ w.heap.size + 1 := by omega
          go_wp2
          refine bodyPost_ret (v := .agg #[.slice ao j c, .int .i64 s.length]) (by simp [results, Tryd.results19, go_sem, r0, r1]) rfl ?_
          refine ⟨_, rfl, ?_, (hbel.setCell (p := ⟨w.heap.size, 0, none⟩) (Nat.le_refl _) _).setCell (p := ⟨w.heap.size, 1, none⟩) (Nat.le_refl _) _⟩
          rw [HQ.out, ← HT.out]
          exact own_mono (ownsRow_setCell_below (a := ⟨w.heap.size, 1, none⟩) (ownsRow_setCell_below (a := ⟨w.heap.size, 0, none⟩) HO.out (show w.heap.size < w.heap.size + 2 by omega) _) (show w.heap.size < w.heap.size + 2 by omega) _) (by omega)
end Go.Proofs.YtbifhmbfmoeofaaDoor.Bits
