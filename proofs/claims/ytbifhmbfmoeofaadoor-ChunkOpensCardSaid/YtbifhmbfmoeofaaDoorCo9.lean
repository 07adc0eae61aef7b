/-
  A chunk opened: as plain functions; the walk of chunk.part.
-/
import Derived.Test.YtbifhmbfmoeofaaDoorCo1
import Derived.Test.YtbifhmbfmoeofaaDoorCo2
import Derived.Test.YtbifhmbfmoeofaaDoorCo3
import Derived.Test.YtbifhmbfmoeofaaDoorCo4
import Derived.Test.YtbifhmbfmoeofaaDoorCo5
import Derived.Test.YtbifhmbfmoeofaaDoorCo7
import Derived.Test.YtbifhmbfmoeofaaDoorCo8
import Derived.IntWalk
import Derived.Deep.CutBlock
namespace Go.Proofs.YtbifhmbfmoeofaaDoor.Opn
open Go.RowKit Go.Gh Go.Proofs.YtbifhmbfmoeofaaDoor.Bits Go.Proofs.YtbifhmbfmoeofaaDoor.Delta Go.Proofs.YtbifhmbfmoeofaaDoor.Sam Go.Proofs.YtbifhmbfmoeofaaDoor.Smp Go.Proofs.YtbifhmbfmoeofaaDoor.Seal
set_option linter.unusedVariables false
/-- Bits at the front of bytes: their bytes, how many they are, and what stands behind. -/
def partF (b : List Int) : Option (List Int × Nat × List Int) :=
  if (takeS 0 0 b).2.2 ≠ 0 ∨ (b.length : Int) < (takeS 0 0 b).2.1 + ((takeS 0 0 b).1 + 7) / 8 then none
  else some ((b.drop (takeS 0 0 b).2.1.toNat).take (((takeS 0 0 b).1 + 7) / 8).toNat, (takeS 0 0 b).1.toNat, b.drop ((takeS 0 0 b).2.1 + ((takeS 0 0 b).1 + 7) / 8).toNat)
open Classical in
noncomputable def stepF (b : List Int) : Option (List Bool × List Int) := match partF b with
  | none => none
  | some (x, n, r) => if okB x n then some (unpack x n, r) else none
noncomputable def chainF (b : List Int) : Nat → Option (List (List Bool) × List Int)
  | 0 => some ([], b)
  | j + 1 => match chainF b j with
    | none => none
    | some (ss, r) => match stepF r with
      | none => none
      | some (s, r') => some (ss ++ [s], r')
def zipR (t v : List Int) : List (List Int) := (List.range t.length).map fun i => [t.getD i 0, wI (v.getD i 0)]
open Classical in
/-- What stands in bytes, if they are two packs that are right. -/
noncomputable def parsed (b : List Int) : Option (List (List Int)) := match stepF b with
  | none => none
  | some (s1, r1) => match stepF r1 with
    | none => none
    | some (s2, r2) => if r2 = [] ∧ okI s1 ∧ okXI s2 ∧ (unpI s1).1.length = (unxI s2).1.length then some (zipR (unpI s1).1 (unxI s2).1) else none
theorem take_low : ∀ (r : List Int) (u : Int) (i : Nat) (n k : Int), Bytes r → 0 ≤ u → takeS u i r = (n, k, 0) → 0 ≤ n ∧ (i : Int) + 1 ≤ k ∧ k ≤ i + r.length
  | [], u, i, n, k, _, _, h => by
    rw [takeS] at h
    have := congrArg (fun r : Int × Int × Int => r.2.2) h
    simp at this
  | z :: rest, u, i, n, k, hb, hu, h => by
    have hz := hb z (by simp)
    rw [takeS] at h
    have hpow : (0 : Int) < 2 ^ (7 * i) := Int.pow_pos (by omega)
    have hm : 0 ≤ z % 128 * 2 ^ (7 * i) := Int.mul_nonneg (by omega) (Int.le_of_lt hpow)
    split at h
    · have := congrArg (fun r : Int × Int × Int => r.2.2) h
      simp at this
    · split at h
      · have e1 : u + z % 128 * 2 ^ (7 * i) = n := congrArg (fun r : Int × Int × Int => r.1) h
        have e2 : (i : Int) + 1 = k := congrArg (fun r : Int × Int × Int => r.2.1) h
        rw [List.length_cons]
        refine ⟨by omega, by omega, by omega⟩
      · obtain ⟨h1, h2, h3⟩ := take_low rest _ (i + 1) n k (fun z hz => hb z (by simp [hz])) (by omega) h
        rw [List.length_cons]
        refine ⟨h1, by omega, by omega⟩
theorem take_bd {b : List Int} {n k : Int} (hb : Bytes b) (h : takeS 0 0 b = (n, k, 0)) : 0 ≤ n ∧ 1 ≤ k ∧ k ≤ b.length := by
  have := take_low b 0 0 n k hb (by omega) h
  omega
theorem part_bad {b : List Int} {n k e : Int} (ht : takeS 0 0 b = (n, k, e)) (h : e ≠ 0 ∨ (b.length : Int) < k + (n + 7) / 8) : partF b = none := by
  unfold partF
  rw [ht]
  exact if_pos h
theorem part_ok {b : List Int} {n k m : Nat} (ht : takeS 0 0 b = ((n : Int), (k : Int), 0)) (hm : (n + 7) / 8 = m) (h : k + m ≤ b.length) : partF b = some ((b.drop k).take m, n, b.drop (k + m)) := by
  unfold partF
  rw [ht]
  have e1 : ((n : Int) + 7) / 8 = (m : Int) := by omega
  have e2 : ((k : Int) + (m : Int)).toNat = k + m := by omega
  simp only [e1, e2, Int.toNat_natCast]
  rw [if_neg (by omega)]
theorem bytes_drop {l : List Int} (h : Bytes l) (k : Nat) : Bytes (l.drop k) := fun z hz => h z (List.mem_of_mem_drop hz)
theorem bytes_take {l : List Int} (h : Bytes l) (k : Nat) : Bytes (l.take k) := fun z hz => h z (List.mem_of_mem_take hz)
/-- What part hands back. -/
def PartPost (w : World) (b : List Int) (e : Ending) (w' : World) : Prop :=
  Below w.heap.size w w' ∧ ((partF b = none ∧ e = .returned (.tuple #[.agg #[.slice none 0 0, .int .i64 0], .slice none 0 0, .bool false])) ∨
    ∃ x n r xv rv, partF b = some (x, n, r) ∧ e = .returned (.tuple #[.agg #[xv, .int .i64 (n : Nat)], rv, .bool true]) ∧ Sl w 1 xv x.length (x.map (Value.int .u8)) ∧ Sl w 1 rv r.length (r.map (Value.int .u8)) ∧ Bytes x ∧ Bytes r ∧ n ≤ 8 * b.length ∧ x.length + r.length ≤ b.length)
set_option maxHeartbeats 4000000 in
set_option maxRecDepth 100000 in
theorem part_any (v : Value) (m : Nat) (b : List Int) (w : World) (hv : Sl w 1 v m (b.map (Value.int .u8))) (hl : b.length = m) (hb : Bytes b) (hm : m ≤ 9000) :
    Calls Tryd.prog 33 #[v] w (PartPost w b) := by
  obtain ⟨ao, c, rfl, hmc, hcc, _⟩ := hv.shape
  obtain ⟨T, hT⟩ : ∃ T, takeS 0 0 b = T := ⟨_, rfl⟩
  obtain ⟨n, k, e⟩ := T
  have HT := Lib.hid hT
  have hba : Below w.heap.size w (w.alloc (.cells #[.slice none 0 0, .int .i64 0] 39)) := (Below.refl _ _).alloc (Nat.le_refl _) _
  have hblk := heap_alloc_new w (.cells #[.slice none 0 0, .int .i64 0] 39)
  obtain ⟨bx, hbx⟩ : ∃ bx, w.heap.size = bx := ⟨_, rfl⟩
  have HV := Lib.hid hv
  have HB := Lib.hid hb
  have HL := Lib.hid hl
  have HTA : Hid (∀ w1, Below w.heap.size w w1 → Calls Tryd.prog 52 #[.slice ao m c] w1 fun e' w' => e' = ret3 (n, k, e) ∧ w1 = w') := Lib.hid (fun w1 h1 => by rw [← hT]; exact take_any _ m b w1 (hv.below h1) (u8_of_bytes hb))
  have HBA := Lib.hid hba
  go_enter Tryd.func33, Tryd.ntmps33
  go_upto_region 1 with (fail)
  have HT0 := HTA.out _ hba
  rw [hbx] at hblk
  generalize w.alloc (.cells #[.slice none 0 0, .int .i64 0] 39) = wa at *
  obtain ⟨⟨r0, r1⟩, ⟨f0, f1⟩⟩ := box2 hblk
  have HT1 := Lib.hid HT0
  clear hT hv hb hl hba HT0 HTA
  go_wp2_with fail
  refine HT1.out.mono ?_
  rintro e' w1 ⟨rfl, rfl⟩
  unfold ret3
  have hbx0 : w.heap.size ≤ bx := by omega
  by_cases he : e = 0
  case neg =>
    have HF : Hid (partF b = none) := Lib.hid (part_bad HT.out (Or.inl he))
    have t1 : (e != 0) = true := by rw [bne_iff_ne]; exact he
    clear he
    go_wp2_with fail
    obtain ⟨⟨y0, y1⟩, -⟩ := box2 (box2_store (.slice none 0 0) (.int .i64 0) hblk)
    refine bodyPost_ret (v := .tuple #[.agg #[.slice none 0 0, .int .i64 0], .slice none 0 0, .bool false]) (by simp [results, Tryd.results33, go_sem, y0, y1]) rfl ?_
    exact ⟨(HBA.out.setCell (p := ⟨bx, 0, none⟩) hbx0 _).setCell (p := ⟨bx, 1, none⟩) hbx0 _, Or.inl ⟨HF.out, rfl⟩⟩
  subst he
  obtain ⟨hn0, hk1, hkm⟩ := take_bd HB.out HT.out
  rw [HL.out] at hkm
  obtain ⟨n', rfl⟩ : ∃ n' : Nat, n = n' := ⟨n.toNat, by omega⟩
  obtain ⟨k', rfl⟩ : ∃ k' : Nat, k = k' := ⟨k.toNat, by omega⟩
  have hw1 : IntKind.u64.wrap (8 * (m : Int)) = 8 * (m : Int) := by rw [IntKind.wrap_u64]; omega
  have hw2 : IntKind.u64.wrap (m : Int) = (m : Int) := by rw [IntKind.wrap_u64]; omega
  obtain ⟨q, hq⟩ : ∃ q, (n' + 7) / 8 = q := ⟨_, rfl⟩
  by_cases hbig : 8 * m < n'
  · have HF : Hid (partF b = none) := Lib.hid (part_bad HT.out (Or.inr (by rw [HL.out]; omega)))
    clear hq
    go_wp2_with fail
    obtain ⟨⟨y0, y1⟩, -⟩ := box2 (box2_store (.slice none 0 0) (.int .i64 0) hblk)
    refine bodyPost_ret (v := .tuple #[.agg #[.slice none 0 0, .int .i64 0], .slice none 0 0, .bool false]) (by simp [results, Tryd.results33, go_sem, y0, y1]) rfl ?_
    exact ⟨(HBA.out.setCell (p := ⟨bx, 0, none⟩) hbx0 _).setCell (p := ⟨bx, 1, none⟩) hbx0 _, Or.inl ⟨HF.out, rfl⟩⟩
  have hn9 : n' ≤ 80000 := by omega
  have hw3 : IntKind.i64.wrap (n' : Int) = (n' : Int) := IntWalk.i64_in _ (by omega)
  have hw4 : IntKind.i64.wrap ((n' : Int) + 7) = (n' : Int) + 7 := IntWalk.i64_in _ (by omega)
  have hw5 : IntKind.i64.wrap (((n' : Int) + 7) / 8) = (q : Int) := by rw [IntWalk.i64_in _ (by omega)]; omega
  have hw5' : IntKind.i64.wrap (((n' : Int) + 7).tdiv 8) = (q : Int) := by rw [Int.tdiv_eq_ediv_of_nonneg (by omega)]; exact hw5
  have hw6 : IntKind.i64.wrap ((k' : Int) + (q : Int)) = (k' : Int) + q := IntWalk.i64_in _ (by omega)
  have hqi : ((n' : Int) + 7) / 8 = (q : Int) := by omega
  by_cases hend : m < k' + q
  · have HF : Hid (partF b = none) := Lib.hid (part_bad HT.out (Or.inr (by rw [HL.out]; omega)))
    clear hq
    go_wp2_with fail
    obtain ⟨⟨y0, y1⟩, -⟩ := box2 (box2_store (.slice none 0 0) (.int .i64 0) hblk)
    refine bodyPost_ret (v := .tuple #[.agg #[.slice none 0 0, .int .i64 0], .slice none 0 0, .bool false]) (by simp [results, Tryd.results33, go_sem, y0, y1]) rfl ?_
    exact ⟨(HBA.out.setCell (p := ⟨bx, 0, none⟩) hbx0 _).setCell (p := ⟨bx, 1, none⟩) hbx0 _, Or.inl ⟨HF.out, rfl⟩⟩
  obtain ⟨P, hP⟩ : ∃ P, k' + q = P := ⟨_, rfl⟩
  have hw7 : IntKind.i64.wrap ((k' : Int) + (q : Int)) = (P : Int) := by rw [hw6]; omega
  have hPi : (k' : Int) + (q : Int) = (P : Int) := by omega
  have hPm : P ≤ m := by omega
  have hkP : k' ≤ P := by omega
  have hp := part_ok HT.out hq (by rw [HL.out]; omega)
  rw [hP] at hp
  have HPA := Lib.hid hp
  have hX := sl_sliced HV.out hkP hPm
  have hR := sl_sliced HV.out hPm (Nat.le_refl m)
  have hXX : Sl w 1 (sliced ao k' P c 1) (P - k') (((b.drop k').take q).map (Value.int .u8)) := by
    have e : P - k' = q := by omega
    rw [Nat.mul_one, Nat.mul_one, ← List.map_drop, ← List.map_take] at hX
    rw [e] at hX ⊢
    exact hX
  have hRR : Sl w 1 (sliced ao P m c 1) (m - P) ((b.drop P).map (Value.int .u8)) := by
    rw [Nat.mul_one, Nat.mul_one, ← List.map_drop, ← List.map_take, List.take_of_length_le (by rw [List.length_drop, HL.out]; exact Nat.le_refl _)] at hR
    exact hR
  have HXL : Hid (((b.drop k').take q).length = P - k') := Lib.hid (by rw [List.length_take, List.length_drop, HL.out]; omega)
  have HRL : Hid ((b.drop P).length = m - P) := Lib.hid (by rw [List.length_drop, HL.out])
  have HFIN : Hid (∀ (w2 : World) (xv rv : Value), Below w.heap.size w w2 → xv = sliced ao k' P c 1 → rv = sliced ao P m c 1 → PartPost w b (.returned (.tuple #[.agg #[xv, .int .i64 n'], rv, .bool true])) w2) := Lib.hid (by
    rintro w2 xv rv h1 rfl rfl
    refine ⟨h1, Or.inr ⟨_, n', _, _, _, HPA.out, rfl, by rw [HXL.out]; exact hXX, by rw [HRL.out]; exact hRR, bytes_take (bytes_drop HB.out _) _, bytes_drop HB.out _, by rw [HL.out]; omega, ?_⟩⟩
    rw [HXL.out, HRL.out, HL.out]
    omega)
  obtain ⟨b0, off, rfl⟩ : ∃ b0 off, ao = some ⟨b0, off, none⟩ := by
    obtain ⟨ao', cap', e1, _, _, _, _, h6⟩ := HV.out
    simp at e1
    obtain ⟨rfl, rfl⟩ := e1
    obtain ⟨b0, off, h, _⟩ := h6 (by omega)
    exact ⟨b0, off, h⟩
  have hdr : Below wa.heap.size wa wa.drew := (Below.refl _ _).drew
  have HBA2 := Lib.hid (HBA.out.drew)
  clear hX hR hXX hRR hp hq hP
  have hblk2 : wa.drew.heap[bx]? = some (.cells #[.slice none 0 0, .int .i64 0] 39 (0, 0)) := hblk
  clear hdr
  by_cases hcP : c = P
  · subst hcP
    obtain rfl : m = c := by omega
    by_cases hck : m = k'
    case' pos => subst hck
    case pos =>
      go_upto_region 7 with (fail)
      go_region_held3 (fun _ => True) (trivial) (fail)
      have hdd : (((wa.setCell ⟨bx, 0, none⟩ (.slice (some ⟨b0, off, none⟩) (0) (0))).setCell ⟨bx, 1, none⟩ (.int .i64 n')).drew).heap[bx]? = some (.cells #[.slice (some ⟨b0, off, none⟩) (0) (0), .int .i64 n'] 39 (0, 0)) := box2_store (.slice (some ⟨b0, off, none⟩) (0) (0)) (.int .i64 n') hblk
      have hbz : Below w.heap.size w (((wa.setCell ⟨bx, 0, none⟩ (.slice (some ⟨b0, off, none⟩) (0) (0))).setCell ⟨bx, 1, none⟩ (.int .i64 n')).drew) := ((HBA.out.setCell (p := ⟨bx, 0, none⟩) hbx0 _).setCell (p := ⟨bx, 1, none⟩) hbx0 _).drew
      go_wp2_with fail
      generalize (((wa.setCell ⟨bx, 0, none⟩ (.slice (some ⟨b0, off, none⟩) (0) (0))).setCell ⟨bx, 1, none⟩ (.int .i64 n')).drew) = wz at hdd hbz ⊢
      obtain ⟨⟨z0, z1⟩, -⟩ := box2 hdd
      refine bodyPost_ret (v := .tuple #[.agg #[.slice (some ⟨b0, off, none⟩) (0) (0), .int .i64 n'], .slice (some ⟨b0, off, none⟩) 0 0, .bool true]) (by simp [results, Tryd.results33, go_sem, z0, z1]) rfl ?_
      refine HFIN.out _ _ _ hbz ?_ ?_
      · unfold sliced; simp
      · unfold sliced; simp
    go_upto_region 7 with (fail)
    go_region_held3 (fun _ => True) (trivial) (fail)
    have hdd : (((wa.setCell ⟨bx, 0, none⟩ (.slice (some ⟨b0, off + k', none⟩) (m - k') (m - k'))).setCell ⟨bx, 1, none⟩ (.int .i64 n')).drew).heap[bx]? = some (.cells #[.slice (some ⟨b0, off + k', none⟩) (m - k') (m - k'), .int .i64 n'] 39 (0, 0)) := box2_store (.slice (some ⟨b0, off + k', none⟩) (m - k') (m - k')) (.int .i64 n') hblk
    have hbz : Below w.heap.size w (((wa.setCell ⟨bx, 0, none⟩ (.slice (some ⟨b0, off + k', none⟩) (m - k') (m - k'))).setCell ⟨bx, 1, none⟩ (.int .i64 n')).drew) := ((HBA.out.setCell (p := ⟨bx, 0, none⟩) hbx0 _).setCell (p := ⟨bx, 1, none⟩) hbx0 _).drew
    go_wp2_with fail
    generalize (((wa.setCell ⟨bx, 0, none⟩ (.slice (some ⟨b0, off + k', none⟩) (m - k') (m - k'))).setCell ⟨bx, 1, none⟩ (.int .i64 n')).drew) = wz at hdd hbz ⊢
    obtain ⟨⟨z0, z1⟩, -⟩ := box2 hdd
    refine bodyPost_ret (v := .tuple #[.agg #[.slice (some ⟨b0, off + k', none⟩) (m - k') (m - k'), .int .i64 n'], .slice (some ⟨b0, off, none⟩) 0 0, .bool true]) (by simp [results, Tryd.results33, go_sem, z0, z1]) rfl ?_
    refine HFIN.out _ _ _ hbz ?_ ?_
    · unfold sliced; rw [if_neg hck]; simp [addr_add]
    · unfold sliced; simp
  · have hck : ¬ c = k' := by omega
    have i1 : (0 : Int) ≤ (k' : Int) := by omega
    have i2 : (k' : Int) ≤ (P : Int) := by omega
    have i3 : (P : Int) ≤ (c : Int) := by omega
    have i4 : (P : Int) ≤ (m : Int) := by omega
    go_upto_region 7 with (fail)
    go_region_held3 (fun _ => True) (trivial) (fail)
    have hdd : (((wa.setCell ⟨bx, 0, none⟩ (.slice (some ⟨b0, off + k', none⟩) (P - k') (c - k'))).setCell ⟨bx, 1, none⟩ (.int .i64 n')).drew).heap[bx]? = some (.cells #[.slice (some ⟨b0, off + k', none⟩) (P - k') (c - k'), .int .i64 n'] 39 (0, 0)) := box2_store (.slice (some ⟨b0, off + k', none⟩) (P - k') (c - k')) (.int .i64 n') hblk
    have hbz : Below w.heap.size w (((wa.setCell ⟨bx, 0, none⟩ (.slice (some ⟨b0, off + k', none⟩) (P - k') (c - k'))).setCell ⟨bx, 1, none⟩ (.int .i64 n')).drew) := ((HBA.out.setCell (p := ⟨bx, 0, none⟩) hbx0 _).setCell (p := ⟨bx, 1, none⟩) hbx0 _).drew
    go_wp2_with fail
    generalize (((wa.setCell ⟨bx, 0, none⟩ (.slice (some ⟨b0, off + k', none⟩) (P - k') (c - k'))).setCell ⟨bx, 1, none⟩ (.int .i64 n')).drew) = wz at hdd hbz ⊢
    obtain ⟨⟨z0, z1⟩, -⟩ := box2 hdd
    refine bodyPost_ret (v := .tuple #[.agg #[.slice (some ⟨b0, off + k', none⟩) (P - k') (c - k'), .int .i64 n'], .slice (some ⟨b0, off + P, none⟩) (m - P) (c - P), .bool true]) (by simp [results, Tryd.results33, go_sem, z0, z1]) rfl ?_
    refine HFIN.out _ _ _ hbz ?_ ?_
    · unfold sliced; rw [if_neg hck]; simp [addr_add]
    · unfold sliced; rw [if_neg hcP]; simp [addr_add]
end Go.Proofs.YtbifhmbfmoeofaaDoor.Opn
/-
  The walks of slices.Equal (numbers, bytes), of TimesOf's 'take' and of 'signed'.
-/
namespace Go.Proofs.YtbifhmbfmoeofaaDoor.Delta
open Go.RowKit Go.Gh Go.Proofs.YtbifhmbfmoeofaaDoor.Bits
set_option linter.unusedVariables false
theorem take_eq_step {l l' : List Int} {k : Nat} (h : l.take k = l'.take k) (hk : k < l.length) (hk' : k < l'.length) (he : l.getD k 0 = l'.getD k 0) : l.take (k + 1) = l'.take (k + 1) := by
  rw [← take_more l hk, ← take_more l' hk', h, he]
theorem ne_at {l l' : List Int} {k : Nat} (he : ¬ l.getD k 0 = l'.getD k 0) : ¬ l = l' := fun h => he (by rw [h])
set_option maxRecDepth 100000 in
theorem eqi_any (v v' : Value) (n n' : Nat) (l l' : List Int) (w : World) (hs : Sl w 1 v n (l.map (Value.int .i64))) (ht : Sl w 1 v' n' (l'.map (Value.int .i64))) (hl : l.length = n) (hl' : l'.length = n') :
    Calls Tryd.prog 27 #[v, v'] w fun e w' => e = .returned (.bool (decide (l = l'))) ∧ Below w.heap.size w w' := by
  obtain ⟨ao, c, rfl, hnc, hc, _⟩ := hs.shape
  obtain ⟨bo, d, rfl, hod, hd, _⟩ := ht.shape
  have HL := Lib.hid hl
  have HL' := Lib.hid hl'
  by_cases hne : n = n'
  case neg =>
    have HF : Hid (decide (l = l') = false) := Lib.hid (decide_eq_false fun h => hne (by rw [← hl, ← hl', h]))
    have t1 : ((n : Int) != (n' : Int)) = true := by rw [bne_iff_ne]; omega
    clear hl hl' hne
    go_enter Tryd.func27, Tryd.ntmps27
    go_wp2_with fail
    go_ret
    exact ⟨ret_bool HF.out.symm, Below.refl _ _⟩
  subst hne
  clear hl hl'
  have t1 : ((n : Int) != (n : Int)) = false := by simp
  go_enter Tryd.func27, Tryd.ntmps27
  go_wp2_with fail
  go_loopw [5, 13] (fun _ i wr => ∃ k : Nat, k ≤ n ∧ i = .int .i64 k ∧ Below w.heap.size w wr ∧ Hid (l.take k = l'.take k)) (fun _ i _ => n - (intOf i).toNat)
  case atStart => exact ⟨0, by omega, rfl, Below.refl _ _, rfl⟩
  case round =>
    obtain ⟨k, hk, rfl, hbr, HE⟩ := hrel
    by_cases hlt : k < n
    · obtain ⟨b, off, rfl, hc1⟩ := (hs.below hbr).int (i := k) hlt
      obtain ⟨b', off', rfl, hc2⟩ := (ht.below hbr).int (i := k) hlt
      by_cases heq : l.getD k 0 = l'.getD k 0
      · have HN : Hid (l.take (k + 1) = l'.take (k + 1)) := Lib.hid (take_eq_step HE.out (by have := HL.out; omega) (by have := HL'.out; omega) heq)
        rw [heq] at hc1
        clear heq
        generalize l'.getD k 0 = z at *
        have hz : (z != z) = false := by simp
        go_wp2_with fail
        go_quiet (fail)
        go_wp2
        go_roundw
        case rel => exact ⟨k + 1, by omega, by go_num, below_drewN hbr _, HN⟩
        case measure => simp [intOf]; omega
      · have HF : Hid (decide (l = l') = false) := Lib.hid (decide_eq_false (ne_at heq))
        generalize l'.getD k 0 = z at *
        generalize l.getD k 0 = y at *
        have hz : (y != z) = true := by rw [bne_iff_ne]; exact heq
        clear heq
        go_wp2_with fail
        go_quiet (fail)
        go_wp2
        go_ret
        exact ⟨ret_bool HF.out.symm, below_drewN hbr _⟩
    · obtain rfl : k = n := by omega
      have HF : Hid (decide (l = l') = true) := Lib.hid (decide_eq_true (by
        have h := HE.out
        rwa [List.take_of_length_le (by rw [HL.out]; exact Nat.le_refl _), List.take_of_length_le (by rw [HL'.out]; exact Nat.le_refl _)] at h))
      go_wp2_with fail
      go_ret
      exact ⟨ret_bool HF.out.symm, hbr⟩
set_option maxRecDepth 100000 in
theorem eqb_any (v v' : Value) (n n' : Nat) (l l' : List Int) (w : World) (hs : Sl w 1 v n (l.map (Value.int .u8))) (ht : Sl w 1 v' n' (l'.map (Value.int .u8))) (hl : l.length = n) (hl' : l'.length = n') :
    Calls Tryd.prog 47 #[v, v'] w fun e w' => e = .returned (.bool (decide (l = l'))) ∧ Below w.heap.size w w' := by
  obtain ⟨ao, c, rfl, hnc, hc, _⟩ := hs.shape
  obtain ⟨bo, d, rfl, hod, hd, _⟩ := ht.shape
  have HL := Lib.hid hl
  have HL' := Lib.hid hl'
  by_cases hne : n = n'
  case neg =>
    have HF : Hid (decide (l = l') = false) := Lib.hid (decide_eq_false fun h => hne (by rw [← hl, ← hl', h]))
    have t1 : ((n : Int) != (n' : Int)) = true := by rw [bne_iff_ne]; omega
    clear hl hl' hne
    go_enter Tryd.func47, Tryd.ntmps47
    go_wp2_with fail
    go_ret
    exact ⟨ret_bool HF.out.symm, Below.refl _ _⟩
  subst hne
  clear hl hl'
  have t1 : ((n : Int) != (n : Int)) = false := by simp
  go_enter Tryd.func47, Tryd.ntmps47
  go_wp2_with fail
  go_loopw [5, 13] (fun _ i wr => ∃ k : Nat, k ≤ n ∧ i = .int .i64 k ∧ Below w.heap.size w wr ∧ Hid (l.take k = l'.take k)) (fun _ i _ => n - (intOf i).toNat)
  case atStart => exact ⟨0, by omega, rfl, Below.refl _ _, rfl⟩
  case round =>
    obtain ⟨k, hk, rfl, hbr, HE⟩ := hrel
    by_cases hlt : k < n
    · obtain ⟨b, off, rfl, hc1⟩ := (hs.below hbr).int (i := k) hlt
      obtain ⟨b', off', rfl, hc2⟩ := (ht.below hbr).int (i := k) hlt
      by_cases heq : l.getD k 0 = l'.getD k 0
      · have HN : Hid (l.take (k + 1) = l'.take (k + 1)) := Lib.hid (take_eq_step HE.out (by have := HL.out; omega) (by have := HL'.out; omega) heq)
        rw [heq] at hc1
        clear heq
        generalize l'.getD k 0 = z at *
        have hz : (z != z) = false := by simp
        go_wp2_with fail
        go_quiet (fail)
        go_wp2
        go_roundw
        case rel => exact ⟨k + 1, by omega, by go_num, below_drewN hbr _, HN⟩
        case measure => simp [intOf]; omega
      · have HF : Hid (decide (l = l') = false) := Lib.hid (decide_eq_false (ne_at heq))
        generalize l'.getD k 0 = z at *
        generalize l.getD k 0 = y at *
        have hz : (y != z) = true := by rw [bne_iff_ne]; exact heq
        clear heq
        go_wp2_with fail
        go_quiet (fail)
        go_wp2
        go_ret
        exact ⟨ret_bool HF.out.symm, below_drewN hbr _⟩
    · obtain rfl : k = n := by omega
      have HF : Hid (decide (l = l') = true) := Lib.hid (decide_eq_true (by
        have h := HE.out
        rwa [List.take_of_length_le (by rw [HL.out]; exact Nat.le_refl _), List.take_of_length_le (by rw [HL'.out]; exact Nat.le_refl _)] at h))
      go_wp2_with fail
      go_ret
      exact ⟨ret_bool HF.out.symm, hbr⟩
theorem sx_empty : (⟨#[]⟩ : ByteArray) = sbits [] := rfl
theorem sx_zero : (⟨#[48]⟩ : ByteArray) = sbits [false] := rfl
/-- 'take': what it hands back, what it leaves in the cell that it captured. -/
theorem take_any (n cb : Nat) (s : List Bool) (w : World) (hn : n ≤ 64) (hs : s.length ≤ 100000) (hc : w.cell? ⟨cb, 0, none⟩ = some (.string (sbits s))) (hf : w.frozen? ⟨cb, 0, none⟩ = false) :
    Calls Tryd.prog 48 #[.int .i64 n, .pointer (some ⟨cb, 0, none⟩)] w fun e w' => e = .returned (.string (sbits (tkR n s).1)) ∧ w' = w.setCell ⟨cb, 0, none⟩ (.string (sbits (tkR n s).2)) := by
  have hsz : (sbits s).size = s.length := sbits_size s
  by_cases h : s.length < n
  · have HF : Hid (tkR n s = ([false], [])) := Lib.hid (if_pos h)
    go_enter Tryd.func48, Tryd.ntmps48
    go_wp2_with fail
    go_ret
    rw [HF.out]
    exact ⟨rfl, rfl⟩
  · have HF : Hid (tkR n s = (s.take n, s.drop n)) := Lib.hid (if_neg h)
    have h1 : n ≤ (sbits s).size := by omega
    have HA : Hid ((sbits s).extract 0 n = sbits (s.take n)) := Lib.hid (by rw [Go.Proofs.YtbifhmbfmoeofaaDoor.Xor.sbits_mid]; simp)
    have HB : Hid ((sbits s).extract n s.length = sbits (s.drop n)) := Lib.hid (by rw [Go.Proofs.YtbifhmbfmoeofaaDoor.Xor.sbits_mid, List.take_of_length_le (by simp)])
    go_enter Tryd.func48, Tryd.ntmps48
    go_wp2_with fail
    go_ret
    rw [HF.out]
    exact ⟨by rw [HA.out]; rfl, by rw [HB.out]⟩
theorem signed_any (b : List Bool) (hb : 0 < b.length) (hb2 : b.length ≤ 64) (w : World) :
    Calls Tryd.prog 49 #[.string (sbits b)] w fun e w' => e = .returned (.int .i64 (sgR b)) ∧ w' = w := by
  have hsz : (sbits b).size = b.length := sbits_size b
  have h0 : 0 < (sbits b).size := by omega
  have hg := sbits_get b 0 h0 hb
  have hV := valF_bd b
  obtain ⟨V, hVV⟩ : ∃ V, valF 0 b = V := ⟨_, rfl⟩
  have HV := Lib.hid hVV
  go_enter Tryd.func49, Tryd.ntmps49
  go_wp2_with fail
  refine (valueof_any b hb2 _).mono ?_
  rw [hVV]
  rintro e w' ⟨rfl, rfl⟩
  by_cases hbit : b[0] = true
  · have t1 : ((((sbits b)[0]'h0).toNat : Int) == 49) = true := by rw [hg, if_pos hbit]; rfl
    clear hg
    have hget : b.getD 0 false = true := by rw [List.getD_eq_getElem?_getD, List.getElem?_eq_getElem hb]; exact hbit
    have HSG : Hid (sgR b = wI (wU (V + (18446744073709551616 - 2 ^ b.length)))) := Lib.hid (by unfold sgR; rw [if_pos hget, hVV])
    rw [hVV] at hV
    have hp64 : (2 : Int) ^ b.length ≤ 18446744073709551616 := by
      rw [two_pow_cast]
      have h1 : 2 ^ b.length ≤ 2 ^ 64 := Nat.pow_le_pow_right (by decide) hb2
      have h2 : 2 ^ 64 = 18446744073709551616 := by decide
      omega
    obtain ⟨P, hP⟩ : ∃ P, (2 : Int) ^ b.length = P := ⟨_, rfl⟩
    rw [hP] at hV hp64 HSG
    have HP := Lib.hid hP
    clear hP hVV hget
    go_wp2_with fail
    go_loop [3, 4] (fun x i => ∃ k : Nat, b.length ≤ k ∧ k ≤ 64 ∧ i = .int .i64 k ∧ x = .int .u64 (wU (V + (2 ^ k - P)))) (fun _ i => 64 - (intOf i).toNat)
    case atStart => exact ⟨b.length, Nat.le_refl _, hb2, rfl, by rw [HP.out]; congr 1; rw [wU_eq]; omega⟩
    case round =>
      obtain ⟨k, hk1, hk2, rfl, rfl⟩ := hrel
      by_cases hlt : k < 64
      · have hw := wU_bd (V + (2 ^ k - P))
        have HN : Hid (wU (V + (2 ^ (k + 1) - P)) = wU (wU (V + (2 ^ k - P)) + wU (2 ^ k))) := Lib.hid (by
          rw [Int.pow_succ]
          generalize (2 : Int) ^ k = T
          rw [wU_eq, wU_eq, wU_eq, wU_eq]
          omega)
        generalize wU (V + (2 ^ k - P)) = y at *
        go_wp2
        go_round
        case rel => exact ⟨k + 1, by omega, by omega, by go_num, by rw [HN.out]; rfl⟩
        case measure => simp [intOf]; omega
      · obtain rfl : k = 64 := by omega
        go_wp2
        go_ret
        refine ⟨ret_int ?_, rfl⟩
        rw [HSG.out]
        show wrap64 (wU (V + (18446744073709551616 - P))) = _
        unfold wI
        rw [IntWalk.i64_left]
  · have t1 : ((((sbits b)[0]'h0).toNat : Int) == 49) = false := by rw [hg, if_neg hbit]; rfl
    have hget : b.getD 0 false = false := by rw [List.getD_eq_getElem?_getD, List.getElem?_eq_getElem hb]; simpa using hbit
    have HSG : Hid (sgR b = wI V) := Lib.hid (by unfold sgR; rw [if_neg (by rw [hget]; simp), hVV])
    clear hg
    go_wp2_with fail
    go_ret
    refine ⟨ret_int ?_, rfl⟩
    rw [HSG.out]
    unfold wI
    rw [IntWalk.i64_left]
end Go.Proofs.YtbifhmbfmoeofaaDoor.Delta
/-
  The walk of (*Reader).Take: bits are read off.
-/
namespace Go.Proofs.YtbifhmbfmoeofaaDoor.Bits
open Go.RowKit Go.Gh Go.WideShapes
set_option linter.unusedVariables false

def RInv (w : World) (rb : Nat) (bs : Value) (N at' : Nat) (sh : Bool) : Prop :=
  w.heap[rb]? = some (.cells #[bs, .int .i64 N, .int .i64 at', .bool sh] 90 (0, 0))

def RRes (l : List Int) (N at' n : Nat) (sh : Bool) (V : Int) (at2 : Nat) (sh2 : Bool) : Prop :=
  if at' + n ≤ N then V = valF 0 (((unpack l N).drop at').take n) ∧ at2 = at' + n ∧ sh2 = sh else V = 0 ∧ at2 = N ∧ sh2 = true
theorem rstep (l : List Int) (V z : Int) (A : Nat) (h0 : 0 ≤ V) (h1 : V < 9223372036854775808) (hz0 : 0 ≤ z) (hz1 : z < 256) (HZ : l.getD (A / 8) 0 = z) :
    bits .or .u64 (IntKind.u64.wrap (V * 2)) (IntKind.u64.wrap (bits .and .u8 (z / 2 ^ (7 - A % 8)) 1)) = 2 * V + b2i (bitAt l A) := by
  have hq : 0 ≤ z / 2 ^ (7 - A % 8) := Int.ediv_nonneg hz0 (Int.le_of_lt (two_pow_pos _))
  have hle : z / 2 ^ (7 - A % 8) ≤ z := Int.ediv_le_self _ hz0
  have e1 : bits .and .u8 (z / 2 ^ (7 - A % 8)) 1 = b2i (bitAt l A) := by
    rw [u8_and _ 1 hq (by omega) (by decide) (by decide), show (1 : Int).toNat = 1 from rfl, nat_mask1]
    unfold bitAt bitI
    rw [HZ]
    generalize z / 2 ^ (7 - A % 8) = q at *
    rcases (show q % 2 = 0 ∨ q % 2 = 1 by omega) with h | h <;> rw [h] <;> simp [b2i] <;> omega
  rw [e1]
  have hb := b2i_bd (bitAt l A)
  generalize b2i (bitAt l A) = bt at *
  have e2 : IntKind.u64.wrap (V * 2) = V * 2 := by rw [IntKind.wrap_u64]; omega
  have e3 : IntKind.u64.wrap bt = bt := by rw [IntKind.wrap_u64]; omega
  rw [e2, e3, u64_or _ _ (by omega) (by omega) (by omega) (by omega), nat_join 1 _ _ (by omega) (by omega)]
  omega
theorem drop_take_snoc (l : List Int) (N a k : Nat) (h : a + k < N) : ((unpack l N).drop a).take (k + 1) = ((unpack l N).drop a).take k ++ [bitAt l (a + k)] := by
  have hl := unpack_len l N
  rw [List.take_succ_eq_append_getElem (by simp; omega)]
  congr 1
  simp [unpack]

/-- What a Take of n bits leaves. -/
def RTook (w : World) (rb : Nat) (bs : Value) (l : List Int) (N at' n : Nat) (sh : Bool) (e : Ending) (w' : World) : Prop :=
  ∃ V at2 sh2, e = .returned (.int .u64 V) ∧ RInv w' rb bs N at2 sh2 ∧ w.grownBy w' (some rb) ∧ RRes l N at' n sh V at2 sh2
theorem sl_old {w : World} {size n : Nat} {v : Value} {xs : List Value} (h : Sl w size v n xs) (hp : 0 < size) : 0 < n → v.ownBlock ≠ some w.heap.size := by
  intro hn h2
  obtain ⟨ao, cap, rfl, _, _, _, hl, h6⟩ := h
  obtain ⟨b, off, rfl, hc⟩ := h6 hn
  have hx : 0 < xs.length := by rw [hl]; exact Nat.mul_pos hn hp
  have := cell_lt (hc 0 xs[0] (by simp [hx]))
  simp [Value.ownBlock] at h2
  omega
theorem byteV {w : World} {bs : Value} {n : Nat} {zs : List Int} (h : Sl w 1 bs n (zs.map (Value.int .u8))) (hl : ∀ z ∈ zs, (Lit.int .u8 z).wf = true) {i : Nat} (hi : i < n) :
    ∃ b off c z, bs = .slice (some ⟨b, off, none⟩) n c ∧ n ≤ c ∧ c ≤ 9223372036854775807 ∧ w.cell? ⟨b, off + i, none⟩ = some (.int .u8 z) ∧ 0 ≤ z ∧ z < 256 ∧ Hid (zs.getD i 0 = z) := by
  obtain ⟨ao, c, rfl, h1, h2, _⟩ := h.shape
  obtain ⟨b, off, z, rfl, h3, h4, h5, h6⟩ := h.byte hl hi
  exact ⟨b, off, c, z, rfl, h1, h2, h3, h4, h5, h6⟩
theorem Sl.grown {w w' : World} {size n b : Nat} {v : Value} {xs : List Value} (h : Sl w size v n xs) (hg : w.grownBy w' (some b)) (hne : 0 < n → v.ownBlock ≠ some b) : Sl w' size v n xs := by
  obtain ⟨ao, cap, rfl, h2, h3, h4, h5, h6⟩ := h
  refine ⟨ao, cap, rfl, h2, h3, h4, h5, fun hn => ?_⟩
  obtain ⟨b', off, rfl, hc⟩ := h6 hn
  refine ⟨b', off, rfl, fun i u hu => ?_⟩
  exact hg.cell (hc i u hu) (by simpa [Value.ownBlock] using hne hn)

set_option maxRecDepth 100000 in
set_option maxHeartbeats 1000000 in
theorem rtake_any (bs : Value) (len : Nat) (l : List Int) (N at' n rb : Nat) (sh : Bool) (w : World) (hs : Sl w 1 bs len (l.map (Value.int .u8))) (hl : ∀ z ∈ l, (Lit.int .u8 z).wf = true) (hlen : len ≤ 140737488355328) (hN : N ≤ 8 * len) (hat : at' ≤ N) (hn : n ≤ 64)
    (hr : RInv w rb bs N at' sh) (hne : 0 < len → bs.ownBlock ≠ some rb) :
    Calls Tryd.prog 45 #[.pointer (some ⟨rb, 0, none⟩), .int .i64 n] w (RTook w rb bs l N at' n sh) := by
  go_enter Tryd.func45, Tryd.ntmps45
  go_wp2_with fail
  go_loopw [4, 5, 7] (fun r v i wr => ∃ (k : Nat) (V : Int), k ≤ n ∧ at' + k ≤ N ∧ i = .int .i64 k ∧ v = .int .u64 V ∧ r = .int .u64 0 ∧ 0 ≤ V ∧ V < 2 ^ k ∧ Hid (V = valF 0 (((unpack l N).drop at').take k)) ∧ RInv wr rb bs N (at' + k) sh ∧ w.grownBy wr (some rb)) (fun _ _ i _ => n - (intOf i).toNat)
  case atStart => exact ⟨0, 0, by omega, by omega, rfl, rfl, rfl, by omega, by decide, rfl, hr, World.grownBy.refl _ _⟩
  case round =>
    obtain ⟨k, V, hk, hak, rfl, rfl, rfl, hV0, hV1, hV, hr, hg⟩ := hrel
    by_cases hlt : k < n
    · have c1 : wr.cell? ⟨rb, 1, none⟩ = some (.int .i64 N) := (row_cell 1 _ hr rfl).1
      have c2 : wr.cell? ⟨rb, 2, none⟩ = some (.int .i64 (at' + k : Nat)) := (row_cell 2 _ hr rfl).1
      have c3 : wr.cell? ⟨rb, 3, none⟩ = some (.bool sh) := (row_cell 3 _ hr rfl).1
      have f3 : wr.frozen? ⟨rb, 3, none⟩ = false := frozen_of_row wr rb 3 _ _ hr
      by_cases hmore : at' + k < N
      · obtain ⟨b, off, c, z, rfl, hc1, hc2, hcell, hz0, hz1, HZ⟩ := byteV (Sl.grown hs hg hne) hl (show (at' + k) / 8 < len by omega)
        have c0 : wr.cell? ⟨rb, 0, none⟩ = some (.slice (some ⟨b, off, none⟩) len c) := (row_cell 0 _ hr rfl).1
        have d1 : decide ((N : Int) ≤ (at' + k : Nat)) = false := by simp; omega
        have f2 : wr.frozen? ⟨rb, 2, none⟩ = false := frozen_of_row wr rb 2 _ _ hr
        have HA0 : Hid (at' + k = at' + k) := rfl
        obtain ⟨A, hA⟩ : ∃ A, at' + k = A := ⟨_, rfl⟩
        have HA := Lib.hid hA
        have hAN : A < N := by omega
        rw [hA] at hcell HZ c2 d1 hr
        clear hA hmore HA0
        have hVb : V < 9223372036854775808 := by
          have h1 : (2 : Int) ^ k ≤ 9223372036854775808 := by
            rw [two_pow_cast]
            have h1 : 2 ^ k ≤ 2 ^ 63 := Nat.pow_le_pow_right (by decide) (by omega)
            have h2 : 2 ^ 63 = 9223372036854775808 := by decide
            omega
          omega
        have HS := Lib.hid (rstep l V z A hV0 hVb hz0 hz1 HZ.out)
        have HV2 : Hid (2 * V + b2i (bitAt l A) = valF 0 (((unpack l N).drop at').take (k + 1))) := by
          show _ = _
          rw [drop_take_snoc l N at' k (by have := HA.out; omega), valF_snoc, hV.out, HA.out]
        have hVp : 2 * V + b2i (bitAt l A) < 2 ^ (k + 1) := by
          have := b2i_bd (bitAt l A)
          rw [Int.pow_succ]
          omega
        have hVn : 0 ≤ 2 * V + b2i (bitAt l A) := by
          have := b2i_bd (bitAt l A)
          omega
        generalize 2 * V + b2i (bitAt l A) = V2 at *
        obtain ⟨j, hj⟩ : ∃ j, A / 8 = j := ⟨_, rfl⟩
        have r1 : IntKind.i64.wrap ((A : Int) / 8) = (j : Int) := by rw [IntWalk.i64_in _ (by omega)]; omega
        have hjl : (j : Int) < len := by omega
        rw [hj] at hcell
        clear hj
        go_wp2_with fail
        go_quiet (fail)
        go_wp2
        go_quiet (fail)
        go_wp2
        go_roundw
        case rel =>
          refine ⟨k + 1, V2, by omega, by have := HA.out; omega, by go_num, ?_, rfl, hVn, hVp, HV2, ?_, grown_setCell (grown_drewN hg _) _ _⟩
          · have e2 : IntKind.u64.wrap (V * 2) = V * 2 := by rw [IntKind.wrap_u64]; omega
            have := HS.out
            rw [e2] at this
            rw [this]
          · have := row_setCell 2 (.int .i64 ((A : Int) + 1)) hr
            rw [show at' + (k + 1) = A + 1 from by have := HA.out; omega]
            exact this
        case measure => simp [intOf]; omega
      · have d1 : decide ((N : Int) ≤ (at' + k : Nat)) = true := by simp; omega
        have hfin : RRes l N at' n sh 0 N true := by
          unfold RRes
          rw [if_neg (by omega)]
          exact ⟨rfl, rfl, rfl⟩
        have hakN : at' + k = N := by omega
        generalize at' + k = A at *
        subst hakN
        go_wp2_with fail
        go_quiet (fail)
        go_wp2
        go_ret
        refine ⟨0, A, true, rfl, ?_, grown_setCell (grown_drewN hg _) _ _, hfin⟩
        exact row_setCell 3 (.bool true) hr
    · obtain rfl : k = n := by omega
      have hfin : RRes l N at' k sh V (at' + k) sh := by
        unfold RRes
        rw [if_pos hak]
        exact ⟨hV.out, rfl, rfl⟩
      go_wp2
      go_ret
      exact ⟨V, _, sh, rfl, hr, hg, hfin⟩
end Go.Proofs.YtbifhmbfmoeofaaDoor.Bits
/-
  The walk of delta.change.
-/
namespace Go.Proofs.YtbifhmbfmoeofaaDoor.Delta
open Go.RowKit Go.Gh Go.Proofs.YtbifhmbfmoeofaaDoor.Bits
set_option linter.unusedVariables false
theorem rres_tk {l : List Int} {N a n : Nat} {sh : Bool} {V : Int} {a2 : Nat} {sh2 : Bool} (h : RRes l N a n sh V a2 sh2) (ha : a ≤ N) : tk n ((unpack l N).drop a) sh = (V, (unpack l N).drop a2, sh2) ∧ a2 ≤ N := by
  unfold RRes at h
  have hl : ((unpack l N).drop a).length = N - a := by rw [List.length_drop, unpack_len]
  unfold tk
  split at h
  · obtain ⟨rfl, rfl, rfl⟩ := h
    rw [if_pos (by omega), List.drop_drop]
    exact ⟨rfl, by omega⟩
  · obtain ⟨rfl, rfl, rfl⟩ := h
    rw [if_neg (by omega), List.drop_of_length_le (by rw [unpack_len]; exact Nat.le_refl _)]
    exact ⟨rfl, Nat.le_refl _⟩
theorem Table.grown {w w' : World} {rb : Nat} (h : Table w) (hg : w.grownBy w' (some rb)) (hr : 0 < rb) : Table w' := by
  obtain ⟨h0, ⟨a0, a1, a2⟩, ⟨b0, b1, b2⟩, ⟨c0, c1, c2⟩, ⟨d0, d1, d2⟩, e0, e1, e2⟩ := h
  have t : ∀ i u, w.cell? ⟨0, i, none⟩ = some u → w'.cell? ⟨0, i, none⟩ = some u := fun i u hu => hg.cell hu (by simp; omega)
  exact ⟨Nat.lt_of_lt_of_le h0 hg.size, ⟨t _ _ a0, t _ _ a1, t _ _ a2⟩, ⟨t _ _ b0, t _ _ b1, t _ _ b2⟩, ⟨t _ _ c0, t _ _ c1, t _ _ c2⟩, ⟨t _ _ d0, t _ _ d1, t _ _ d2⟩, t _ _ e0, t _ _ e1, t _ _ e2⟩
/-- A reader that stands at the rest r. -/
structure RAt (w : World) (rb : Nat) (bs : Value) (len : Nat) (l : List Int) (N : Nat) (r : List Bool) (sh : Bool) (w' : World) : Prop where
  ex : ∃ a, a ≤ N ∧ RInv w' rb bs N a sh ∧ (unpack l N).drop a = r
  gr : w.grownBy w' (some rb)
theorem take_at {w wr : World} {bs : Value} {len : Nat} {l : List Int} {N rb : Nat} {r : List Bool} {sh : Bool} (n : Nat) (hs : Sl w 1 bs len (l.map (Value.int .u8))) (hl : ∀ z ∈ l, (Lit.int .u8 z).wf = true) (hlen : len ≤ 140737488355328) (hN : N ≤ 8 * len) (hn : n ≤ 64) (hne : 0 < len → bs.ownBlock ≠ some rb) (h : RAt w rb bs len l N r sh wr) :
    Calls Tryd.prog 45 #[.pointer (some ⟨rb, 0, none⟩), .int .i64 n] wr fun e w' => e = .returned (.int .u64 (tk n r sh).1) ∧ RAt w rb bs len l N (tk n r sh).2.1 (tk n r sh).2.2 w' ∧ wr.grownBy w' (some rb) := by
  obtain ⟨⟨a, ha, hi, hr⟩, hg⟩ := h
  refine (rtake_any bs len l N a n rb sh wr (Sl.grown hs hg hne) hl hlen hN ha hn hi hne).mono ?_
  rintro e w' ⟨V, a2, sh2, rfl, hi2, hg2, hres⟩
  obtain ⟨h1, h2⟩ := rres_tk hres ha
  rw [hr] at h1
  rw [h1]
  exact ⟨rfl, ⟨⟨a2, h2, hi2, rfl⟩, grown_trans hg hg2⟩, hg2⟩
set_option maxHeartbeats 2000000 in
set_option maxRecDepth 100000 in
theorem change_any {w wr : World} {bs : Value} {len : Nat} {l : List Int} {N rb : Nat} {r : List Bool} {sh : Bool} (hs : Sl w 1 bs len (l.map (Value.int .u8))) (hl : ∀ z ∈ l, (Lit.int .u8 z).wf = true) (hlen : len ≤ 140737488355328) (hN : N ≤ 8 * len) (hne : 0 < len → bs.ownBlock ≠ some rb) (h : RAt w rb bs len l N r sh wr) (hT : Table w) (hrb : 0 < rb) :
    Calls Tryd.prog 46 #[.pointer (some ⟨rb, 0, none⟩)] wr fun e w' => e = .returned (.int .i64 (chI r sh).1) ∧ RAt w rb bs len l N (chI r sh).2.1 (chI r sh).2.2 w' ∧ wr.grownBy w' (some rb) := by
  have HS := Lib.hid hs
  have HLF := Lib.hid hl
  have HNE := Lib.hid hne
  have HT := Lib.hid hT
  clear hs hl hne hT
  go_enter Tryd.func46, Tryd.ntmps46
  go_upto_block 0 with fail
  go_cut [3] (fun x wx => ∃ (k : Nat) (r2 : List Bool) (sh2 : Bool), k ≤ 4 ∧ x = .int .i64 k ∧ Hid (kI 4 r sh = (k, r2, sh2)) ∧ Hid (RAt w rb bs len l N r2 sh2 wx) ∧ Hid (wr.grownBy wx (some rb)))
  case first =>
    go_wp2_with fail
    go_loopw [3] (fun x wx => ∃ (k f : Nat) (r2 : List Bool) (sh2 : Bool), k + f = 4 ∧ x = .int .i64 k ∧ Hid (kI 4 r sh = ((kI f r2 sh2).1 + k, (kI f r2 sh2).2)) ∧ Hid (RAt w rb bs len l N r2 sh2 wx) ∧ Hid (wr.grownBy wx (some rb))) (fun x _ => 4 - (intOf x).toNat)
    case atStart => exact ⟨0, 4, r, sh, rfl, rfl, rfl, h, World.grownBy.refl _ _⟩
    case round =>
      obtain ⟨k, f, r2, sh2, hkf, rfl, HK, HR, HG⟩ := hrel
      cases f with
      | zero =>
        obtain rfl : k = 4 := by omega
        go_wp2_with fail
        go_meet
        exact ⟨4, r2, sh2, by omega, rfl, by show _ = _; rw [HK.out]; simp [kI], HR, HG⟩
      | succ f =>
        have hk4 : k < 4 := by omega
        have HT1 := take_at 1 HS.out HLF.out hlen hN (by decide) HNE.out HR.out
        obtain ⟨T, hT⟩ : ∃ T, tk 1 r2 sh2 = T := ⟨_, rfl⟩
        obtain ⟨V, r3, sh3⟩ := T
        rw [hT] at HT1
        have HTA := Lib.hid HT1
        clear HT1
        by_cases hV : V = 1
        · subst hV
          have HK2 : Hid (kI 4 r sh = ((kI f r3 sh3).1 + (k + 1), (kI f r3 sh3).2)) := Lib.hid (by rw [HK.out, kI, hT, if_pos rfl]; simp [Nat.add_assoc, Nat.add_comm, Nat.add_left_comm])
          clear hT HK HR
          go_wp2_with fail
          refine HTA.out.mono ?_
          rintro e w3 ⟨rfl, hr3, hg3⟩
          have HG2 := Lib.hid (grown_trans HG.out hg3)
          have HR3 := Lib.hid hr3
          go_wp2_with fail
          go_roundw
          case rel => exact ⟨k + 1, f, r3, sh3, by omega, by go_num, HK2, HR3, HG2⟩
          case measure => simp [intOf]; omega
        · have HK2 : Hid (kI 4 r sh = (k, r3, sh3)) := Lib.hid (by rw [HK.out, kI, hT, if_neg hV]; simp)
          have t1 : (V == 1) = false := beq_eq_false_iff_ne.2 hV
          clear hT HK HR hV
          go_wp2_with fail
          refine HTA.out.mono ?_
          rintro e w3 ⟨rfl, hr3, hg3⟩
          have HG2 := Lib.hid (grown_trans HG.out hg3)
          have HR3 := Lib.hid hr3
          go_wp2_with fail
          go_meet
          exact ⟨k, r3, sh3, by omega, rfl, HK2, HR3, HG2⟩
  case rest =>
    obtain ⟨k, r2, sh2, hk, rfl, HK, HR, HG⟩ := hcut
    obtain ⟨ht0, ⟨ta0, ta1, ta2⟩, ⟨tb0, tb1, tb2⟩, ⟨tc0, tc1, tc2⟩, ⟨td0, td1, td2⟩, te0, te1, te2⟩ := HT.out.grown HR.out.gr hrb
    clear ta0 ta1 tb0 tb1 tc0 tc1 td0 td1 te0 te1
    have hk5 : k = 0 ∨ k = 1 ∨ k = 2 ∨ k = 3 ∨ k = 4 := by omega
    rcases hk5 with rfl | rfl | rfl | rfl | rfl
    · have HC : Hid (chI r sh = (0, r2, sh2)) := Lib.hid (by unfold chI; rw [HK.out, if_pos rfl])
      go_wp2_with fail
      go_ret
      rw [HC.out]
      exact ⟨rfl, HR.out, HG.out⟩
    · have HC : Hid (chI r sh = (sgn 7 (tk 7 r2 sh2).1, (tk 7 r2 sh2).2)) := Lib.hid (by unfold chI; rw [HK.out, if_neg (by simp)]; rfl)
      have HT1 := take_at 7 HS.out HLF.out hlen hN (by decide) HNE.out HR.out
      obtain ⟨T, hT⟩ : ∃ T, tk 7 r2 sh2 = T := ⟨_, rfl⟩
      obtain ⟨V, r3, sh3⟩ := T
      rw [hT] at HT1 HC
      have HTA := Lib.hid HT1
      clear HT1 hT HR HK
      go_wp2_with fail
      refine HTA.out.mono ?_
      rintro e w3 ⟨rfl, hr3, hg3⟩
      have HG2 := Lib.hid (grown_trans HG.out hg3)
      have HR3 := Lib.hid hr3
      go_wp2_with fail
      go_ret
      rw [HC.out]
      exact ⟨ret_int (by show _ = wI (wU (V * 144115188075855872)) / 144115188075855872; unfold wI wU; first | rfl | (rw [IntWalk.i64_left]; done) | (rw [Int.mul_one, Int.ediv_one, IntWalk.i64_left]; done) | (rw [Int.mul_one, Int.ediv_one]; rfl)), HR3.out, HG2.out⟩
    · have HC : Hid (chI r sh = (sgn 9 (tk 9 r2 sh2).1, (tk 9 r2 sh2).2)) := Lib.hid (by unfold chI; rw [HK.out, if_neg (by simp)]; rfl)
      have HT1 := take_at 9 HS.out HLF.out hlen hN (by decide) HNE.out HR.out
      obtain ⟨T, hT⟩ : ∃ T, tk 9 r2 sh2 = T := ⟨_, rfl⟩
      obtain ⟨V, r3, sh3⟩ := T
      rw [hT] at HT1 HC
      have HTA := Lib.hid HT1
      clear HT1 hT HR HK
      go_wp2_with fail
      refine HTA.out.mono ?_
      rintro e w3 ⟨rfl, hr3, hg3⟩
      have HG2 := Lib.hid (grown_trans HG.out hg3)
      have HR3 := Lib.hid hr3
      go_wp2_with fail
      go_ret
      rw [HC.out]
      exact ⟨ret_int (by show _ = wI (wU (V * 36028797018963968)) / 36028797018963968; unfold wI wU; first | rfl | (rw [IntWalk.i64_left]; done) | (rw [Int.mul_one, Int.ediv_one, IntWalk.i64_left]; done) | (rw [Int.mul_one, Int.ediv_one]; rfl)), HR3.out, HG2.out⟩
    · have HC : Hid (chI r sh = (sgn 12 (tk 12 r2 sh2).1, (tk 12 r2 sh2).2)) := Lib.hid (by unfold chI; rw [HK.out, if_neg (by simp)]; rfl)
      have HT1 := take_at 12 HS.out HLF.out hlen hN (by decide) HNE.out HR.out
      obtain ⟨T, hT⟩ : ∃ T, tk 12 r2 sh2 = T := ⟨_, rfl⟩
      obtain ⟨V, r3, sh3⟩ := T
      rw [hT] at HT1 HC
      have HTA := Lib.hid HT1
      clear HT1 hT HR HK
      go_wp2_with fail
      refine HTA.out.mono ?_
      rintro e w3 ⟨rfl, hr3, hg3⟩
      have HG2 := Lib.hid (grown_trans HG.out hg3)
      have HR3 := Lib.hid hr3
      go_wp2_with fail
      go_ret
      rw [HC.out]
      exact ⟨ret_int (by show _ = wI (wU (V * 4503599627370496)) / 4503599627370496; unfold wI wU; first | rfl | (rw [IntWalk.i64_left]; done) | (rw [Int.mul_one, Int.ediv_one, IntWalk.i64_left]; done) | (rw [Int.mul_one, Int.ediv_one]; rfl)), HR3.out, HG2.out⟩
    · have HC : Hid (chI r sh = (sgn 64 (tk 64 r2 sh2).1, (tk 64 r2 sh2).2)) := Lib.hid (by unfold chI; rw [HK.out, if_neg (by simp)]; rfl)
      have HT1 := take_at 64 HS.out HLF.out hlen hN (by decide) HNE.out HR.out
      obtain ⟨T, hT⟩ : ∃ T, tk 64 r2 sh2 = T := ⟨_, rfl⟩
      obtain ⟨V, r3, sh3⟩ := T
      rw [hT] at HT1 HC
      have HTA := Lib.hid HT1
      clear HT1 hT HR HK
      go_wp2_with fail
      refine HTA.out.mono ?_
      rintro e w3 ⟨rfl, hr3, hg3⟩
      have HG2 := Lib.hid (grown_trans HG.out hg3)
      have HR3 := Lib.hid hr3
      go_wp2_with fail
      go_ret
      rw [HC.out]
      exact ⟨ret_int (by show _ = wI (wU (V * 1)) / 1; unfold wI wU; first | rfl | (rw [IntWalk.i64_left]; done) | (rw [Int.mul_one, Int.ediv_one, IntWalk.i64_left]; done) | (rw [Int.mul_one, Int.ediv_one]; rfl)), HR3.out, HG2.out⟩
end Go.Proofs.YtbifhmbfmoeofaaDoor.Delta
/-
  The walk of bits.Check.
-/
namespace Go.Proofs.YtbifhmbfmoeofaaDoor.Bits
open Go.RowKit Go.Gh Go.WideShapes
set_option linter.unusedVariables false

theorem low_bits (z : Int) (m : Nat) : (∀ j, j < m → bitI z j = false) ↔ z % 2 ^ m = 0 := by
  constructor
  · intro h
    rw [← val_signs]
    have : ∀ k, k ≤ m → ∀ s acc, acc = 0 → s = signs z k → valF acc s = 0 := by
      intro k
      induction k with
      | zero => intro _ s acc ha hs; subst ha hs; rfl
      | succ k ih =>
        intro hk s acc ha hs
        subst ha hs
        simp only [signs, valF]
        exact ih (by omega) _ _ (by rw [h k (by omega)]; rfl) rfl
    exact this m (Nat.le_refl _) _ 0 rfl rfl
  · intro h j hj
    rw [← bitI_mod z m j hj, h, bitI_zero]

theorem tail_test (l : List Int) (z : Int) (N n : Nat) (hN : 0 < N % 8) (hn : (N + 7) / 8 = n) (HZ : Hid (l.getD (n - 1) 0 = z)) :
    (∀ i : Nat, (N : Int) ≤ i → i < 8 * n → bitAt l i = false) ↔ z * 2 ^ (N % 8) % 256 = 0 := by
  have e : z * 2 ^ (N % 8) % 256 = z % 2 ^ (8 - N % 8) * 2 ^ (N % 8) := by
    have h256 : (256 : Int) = 2 ^ (8 - N % 8) * 2 ^ (N % 8) := by
      rw [← Int.pow_add, show 8 - N % 8 + N % 8 = 8 from by omega]; decide
    rw [h256, Int.mul_comm z, Int.mul_comm (2 ^ (8 - N % 8)), Int.mul_emod_mul_of_pos _ _ (two_pow_pos _), Int.mul_comm]
  rw [e]
  have hp := two_pow_pos (N % 8)
  have e2 : z % 2 ^ (8 - N % 8) * 2 ^ (N % 8) = 0 ↔ z % 2 ^ (8 - N % 8) = 0 := by
    constructor
    · intro h
      rcases Int.mul_eq_zero.1 h with h | h
      · exact h
      · omega
    · intro h; rw [h, Int.zero_mul]
  rw [e2, ← low_bits]
  constructor
  · intro h j hj
    have := h (8 * (n - 1) + (7 - j)) (by omega) (by omega)
    unfold bitAt at this
    rw [show (8 * (n - 1) + (7 - j)) / 8 = n - 1 from by omega, show (8 * (n - 1) + (7 - j)) % 8 = 7 - j from by omega, HZ.out, show 7 - (7 - j) = j from by omega] at this
    exact this
  · intro h i h1 h2
    unfold bitAt
    rw [show i / 8 = n - 1 from by omega, HZ.out]
    exact h _ (by omega)

set_option maxHeartbeats 1000000 in
theorem check_any (v : Value) (l : List Int) (N : Int) (w : World) (hv : BitsV w v l N) :
    Calls Tryd.prog 44 #[v] w fun e w' => e = .returned (.int .i64 (faultB l N)) ∧ Below w.heap.size w w' := by
  obtain ⟨b, n, rfl, hs, hl, hwf, hn, hN0, hN1⟩ := hv
  obtain ⟨ao, c, rfl, hn', hc, hlen0⟩ := hs.shape
  have hlen : l.length = n := by simpa using hlen0
  have HL := Lib.hid hlen
  clear hlen0
  by_cases h1 : N < 0
  · have HF : Hid (faultB l N = 4) := if_neg (by intro h; have := h.1; omega)
    clear hlen
    have d1 : decide (N < 0) = true := by simpa using h1
    go_enter Tryd.func44, Tryd.ntmps44
    go_wp2
    go_quiet (fail)
    go_wp2
    go_ret
    exact ⟨ret_int HF.out.symm, below_drewN ((Below.refl _ _).alloc (Nat.le_refl _) _) _⟩
  · obtain ⟨M, rfl⟩ := Int.eq_ofNat_of_zero_le (show 0 ≤ N by omega)
    have d1 : decide ((M : Int) < 0) = false := by simp
    by_cases h2 : 8 * n < M
    · have HF : Hid (faultB l M = 4) := if_neg (by intro h; have := h.2.1; omega)
      clear hlen h1
      have d2 : decide (8 * (n : Int) < M) = true := by simp; omega
      go_enter Tryd.func44, Tryd.ntmps44
      go_wp2
      go_quiet (fail)
      go_wp2
      go_ret
      exact ⟨ret_int HF.out.symm, below_drewN ((Below.refl _ _).alloc (Nat.le_refl _) _) _⟩
    · have d2 : decide (8 * (n : Int) < M) = false := by simp; omega
      by_cases h3 : (M + 7) / 8 < n
      · have HF : Hid (faultB l M = 4) := if_neg (by intro h; have := h.2.2.1; omega)
        clear hlen h1
        have d3 : decide (((M : Int) + 7) / 8 < n) = true := by simp; omega
        go_enter Tryd.func44, Tryd.ntmps44
        go_wp2
        go_quiet (fail)
        go_wp2
        go_ret
        exact ⟨ret_int HF.out.symm, below_drewN ((Below.refl _ _).alloc (Nat.le_refl _) _) _⟩
      · have d3 : decide (((M : Int) + 7) / 8 < n) = false := by simp; omega
        by_cases h4 : M % 8 = 0
        · have HF : Hid (faultB l M = 0) := if_pos ⟨by omega, by omega, by omega, fun i h1 h2 => by omega⟩
          have d4 : decide (0 < (M : Int) % 8) = false := by simp; omega
          clear hlen h1 h4
          go_enter Tryd.func44, Tryd.ntmps44
          go_wp2
          go_quiet (fail)
          go_wp2
          go_ret
          exact ⟨ret_int HF.out.symm, below_drewN ((Below.refl _ _).alloc (Nat.le_refl _) _) _⟩
        · have d4 : decide (0 < (M : Int) % 8) = true := by simp; omega
          obtain ⟨b, off, z, rfl, hcell, hz0, hz1, HZ⟩ := (hs.alloc (Obj.cells #[.slice ao n c, .int .i64 M] 39)).byte hwf (show n - 1 < n by omega)
          have hT := tail_test l z M n (by omega) (by omega) HZ
          have g1 : 0 ≤ (n : Int) - 1 := by omega
          have g2 : (n : Int) - 1 < n := by omega
          have g3 : ((n : Int) - 1).toNat = n - 1 := by omega
          by_cases h5 : z * 2 ^ (M % 8) % 256 = 0
          · have HF : Hid (faultB l M = 0) := if_pos ⟨by omega, by omega, by omega, fun i h1 h2 => hT.2 h5 i h1 (by omega)⟩
            clear hlen h1 h4 hT
            go_enter Tryd.func44, Tryd.ntmps44
            go_wp2
            go_quiet (fail)
            go_wp2
            go_ret
            exact ⟨ret_int HF.out.symm, below_drewN ((Below.refl _ _).alloc (Nat.le_refl _) _) _⟩
          · have HF : Hid (faultB l M = 4) := if_neg (by intro h; exact h5 (hT.1 fun i h1 h2 => h.2.2.2 i h1 (by omega)))
            have h6 : (z * 2 ^ (M % 8) % 256 == 0) = false := by simpa using h5
            clear hlen h1 h4 hT
            go_enter Tryd.func44, Tryd.ntmps44
            go_wp2
            go_quiet (fail)
            go_wp2
            go_ret
            exact ⟨ret_int HF.out.symm, below_drewN ((Below.refl _ _).alloc (Nat.le_refl _) _) _⟩
end Go.Proofs.YtbifhmbfmoeofaaDoor.Bits
/-
  The walk of the law DeltaPacks.
-/
namespace Go.Proofs.YtbifhmbfmoeofaaDoor.DeltaPacks
open Go.RowKit Go.Gh Go.Proofs.YtbifhmbfmoeofaaDoor.Bits Go.Proofs.YtbifhmbfmoeofaaDoor.Delta
set_option linter.unusedVariables false

theorem pack_large (v : Value) (n : Nat) (xs : List Value) (w : World) (hs : Sl w 1 v n xs) (hn : 1000 < n) (hn' : n ≤ 140737488355328) :
    Calls Tryd.prog 17 #[v] w fun e w' => e = .returned (.tuple #[.agg #[.slice none 0 0, .int .i64 0], .int .i64 2]) ∧ Below w.heap.size w w' := by
  obtain ⟨ao, c, rfl, hnc, hc, _⟩ := hs.shape
  go_enter Tryd.func17, Tryd.ntmps17
  go_wp2_with fail
  have hA0 := heap_alloc_new w (Obj.cells #[.slice none 0 0, .int .i64 0] 39)
  obtain ⟨⟨r0, r1⟩, -⟩ := box2 hA0
  refine bodyPost_ret (v := .tuple #[.agg #[.slice none 0 0, .int .i64 0], .int .i64 2]) (by simp [results, Tryd.results17, go_sem, r0, r1]) rfl ?_
  exact ⟨rfl, (Below.refl _ w).alloc (Nat.le_refl _) _⟩

set_option maxRecDepth 100000 in
set_option maxHeartbeats 4000000 in
theorem walk (v : Value) (w : World) (h : IsInts .i64 w v) (hT : Table w) :
    Calls Tryd.prog 5 #[v] w fun e w' => e = .returned (.bool true) ∧ Below w.heap.size w w' := by
  obtain ⟨n, l, hs, hwf, hn⟩ := h
  obtain ⟨ao, c, rfl, hnc, hc, hlen⟩ := hs.shape
  have hl : l.length = n := by simpa using hlen
  have HWF := Lib.hid hwf
  have HL := Lib.hid hl
  clear hwf hl hlen
  go_enter Tryd.func5, Tryd.ntmps5
  by_cases hbig : 1000 < n
  · go_wp2_with fail
    refine (pack_large _ n _ _ hs hbig hn).mono ?_
    rintro e w1 ⟨rfl, hb1⟩
    have hb2 := hb1.alloc hb1.size (Obj.cells #[.slice none 0 0, .int .i64 0] 39)
    have hx := heap_alloc_new w1 (Obj.cells #[.slice none 0 0, .int .i64 0] 39)
    obtain ⟨⟨r0, r1⟩, -⟩ := box2 hx
    clear hx
    go_wp2_with fail
    refine (samebits_any _ _ [] [] 0 0 _ (bv_zero _) (bv_zero _)).mono ?_
    rintro e w3 ⟨rfl, hb3⟩
    rw [sameB_one]
    have hb4 := hb2.trans (hb3.mono hb2.size)
    clear hb1 hb2 hb3 r0 r1
    go_wp2_with fail
    go_ret
    exact ⟨rfl, hb4⟩
  · have hn1 : n ≤ 1000 := by omega
    clear hbig
    go_wp2_with fail
    refine (pack_any _ n l _ hs HL.out HWF.out hn1 hT).mono ?_
    rintro e w1 ⟨y, rfl, hown, hb1⟩
    obtain ⟨ay, cy, rfl, _, _, _⟩ := (own_sl hown).shape
    have hpl : (pack (tsTo l n)).length ≤ 9000 := by have := ts_len l n; rw [pack_len]; omega
    have htl : (tsTo l n).length ≤ 68080 := by have := ts_len l n; omega
    have hy := bv_own (N := ((tsTo l n).length : Int)) hown (pack_bytes _) (by omega) (by omega) (by omega)
    obtain ⟨L, hL⟩ : ∃ L, pack (tsTo l n) = L := ⟨_, rfl⟩
    obtain ⟨N, hN⟩ : ∃ N : Int, ((tsTo l n).length : Int) = N := ⟨_, rfl⟩
    have HLL := Lib.hid hL
    have HNN := Lib.hid hN
    have HTL := Lib.hid htl
    rw [hL, hN] at hy
    rw [hL, hN]
    rw [hL] at hpl
    clear hown hL hN htl
    go_upto_region 2 with (fail)
    refine wp_abs (fun w2 => BitsV w2 (.agg #[.slice ay L.length cy, .int .i64 N]) L N ∧ Sl w2 1 (.slice ao n c) n (l.map (Value.int .i64)) ∧ w2.heap[w1.heap.size]? = some (.cells #[.slice ay L.length cy, .int .i64 N] 39 (0, 0)) ∧ Below w.heap.size w w2 ∧ w1.heap.size + 1 ≤ w2.heap.size)
        ⟨bv_below hy ((Below.refl _ _).alloc (Nat.le_refl _) _), hs.below (hb1.alloc hb1.size _), heap_alloc_new w1 _, hb1.alloc hb1.size _, by simp⟩ ?_
    clear hy hs
    rintro w2 ⟨hy, hs, hb, hbel, hsz⟩
    obtain ⟨⟨r0, r1⟩, -⟩ := box2 hb
    clear hb hb1
    have hd : decide (1000 < (n : Int)) = false := decide_eq_false (by omega)
    by_cases h60 : 60 < n
    · have hd2 : decide (60 < (n : Int)) = true := decide_eq_true (by omega)
      go_upto_region 4 with (fail)
      go_quiet (fail)
      go_wp2_with fail
      go_ret
      exact ⟨rfl, below_drewN hbel _⟩
    · have hz : w1.heap.size < w2.heap.size := by omega
      have hd2 : decide (60 < (n : Int)) = false := decide_eq_false (by omega)
      have hz2 := hbel.size
      go_upto_region 4 with (fail)
      go_region_law (first
        | (go_simp; go_at_call 20; refine (timesigns_any _ n l _ (hs.below (Below.refl _ _).drew) HL.out HWF.out hn1).mono ?_; rintro e wu ⟨rfl, hbu⟩; have hBu : Below w2.heap.size w2 wu := ((Below.refl _ _).drew).trans hbu; have yu0 := (hBu.cell (p := ⟨w1.heap.size, 0, none⟩) hz).trans r0; have yu1 := (hBu.cell (p := ⟨w1.heap.size, 1, none⟩) hz).trans r1)
        | (go_simp; go_at_call 19; refine (packed_any _ (by have := HTL.out; omega) _).mono ?_; rintro e wp ⟨pb, rfl, hownp, hbp⟩; have hyp := bv_own (N := ((tsTo l n).length : Int)) hownp (pack_bytes _) (by rw [HLL.out]; omega) (by have := HTL.out; omega) (by have := HTL.out; omega); rw [HLL.out, HNN.out] at hyp; rw [HNN.out]; have hBp : Below w2.heap.size w2 wp := hBu.trans (hbp.mono hBu.size); have yp0 := (hBp.cell (p := ⟨w1.heap.size, 0, none⟩) hz).trans r0; have yp1 := (hBp.cell (p := ⟨w1.heap.size, 1, none⟩) hz).trans r1)
        | (go_simp; go_at_call 18; refine (samebits_any _ _ L L _ _ _ (bv_below hy hBp) hyp).mono ?_; rintro e wq ⟨rfl, hbq⟩; rw [sameB_one]; have hBq : Below w2.heap.size w2 wq := hBp.trans (hbq.mono hBp.size)))
      all_goals (go_wp2_with fail; go_ret; exact ⟨rfl, hbel.trans (hBq.mono hz2)⟩)
end Go.Proofs.YtbifhmbfmoeofaaDoor.DeltaPacks
