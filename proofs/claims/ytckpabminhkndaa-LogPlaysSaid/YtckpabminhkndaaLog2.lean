/-
  The walk of log.first.
-/
import Derived.Test.YtckpabminhkndaaLog1
import Derived.Test.YtckpabminhkndaaEqb
namespace Go.Proofs.Ytckpabminhkndaa.Log
open Go.RowKit Go.Gh Go.Proofs.Ytckpabminhkndaa.Bits Go.Proofs.Ytckpabminhkndaa.Hash
set_option linter.unusedVariables false
/-- x[lo:]. -/
theorem wpList_from {P : Program} {ops : Array Oper} {rest : List Oper} {o : Oper} {a : Act} {Q : Exit → Act → World → Prop} {W W0 : World} {t e : TypeId} {size bytes n : Nat} {x l : Operand} {v : Value} {xs : List Value} (L : Nat) (el : Elem P t e size bytes) (hgd : o.guard = none)
    (ho : o.op = .slice t x (some l) none none) (hx : a.eval x = v) (hl : ∃ k, a.eval l = .int k L) (hS : Sl W0 size v n xs) (h1 : L ≤ n) (hk : ∀ ao c, Sl W0 size (.slice ao (n - L) c) (n - L) ((xs.drop (L * size)).take ((n - L) * size)) → wpList P ops Q rest (a.put o.dst (.slice ao (n - L) c)) W) : wpList P ops Q (o :: rest) a W := by
  obtain ⟨ao, cap, rfl, g2, g3, g4, g5, g6⟩ := hS
  have hS : Sl W0 size (.slice ao n cap) n xs := ⟨ao, cap, rfl, g2, g3, g4, g5, g6⟩
  obtain ⟨e1, e2⟩ := elem_eq el
  obtain ⟨kl, hl⟩ := hl
  refine wpList_run hgd (exec_slice (L := L) (H := n) el ho hx ?_) ?_
  · simp only [Option.map_some, Option.map_none, hl]
    have := run_slice_l W t ao n cap e1 kl (L : Int) (by omega) (by omega)
    simpa using this
  · exact hk _ _ (sl_sliced hS h1 (Nat.le_refl _))
/-- x[:hi]. -/
theorem wpList_to {P : Program} {ops : Array Oper} {rest : List Oper} {o : Oper} {a : Act} {Q : Exit → Act → World → Prop} {W W0 : World} {t e : TypeId} {size bytes n : Nat} {x h : Operand} {v : Value} {xs : List Value} (H : Nat) (el : Elem P t e size bytes) (hgd : o.guard = none)
    (ho : o.op = .slice t x none (some h) none) (hx : a.eval x = v) (hh : ∃ k, a.eval h = .int k H) (hS : Sl W0 size v n xs) (h2 : H ≤ n) (hk : ∀ ao c, Sl W0 size (.slice ao H c) H ((xs.drop (0 * size)).take (H * size)) → wpList P ops Q rest (a.put o.dst (.slice ao H c)) W) : wpList P ops Q (o :: rest) a W := by
  obtain ⟨ao, cap, rfl, g2, g3, g4, g5, g6⟩ := hS
  have hS : Sl W0 size (.slice ao n cap) n xs := ⟨ao, cap, rfl, g2, g3, g4, g5, g6⟩
  obtain ⟨e1, e2⟩ := elem_eq el
  obtain ⟨kh, hh⟩ := hh
  refine wpList_run hgd (exec_slice (L := 0) (H := H) el ho hx ?_) ?_
  · simp only [Option.map_some, Option.map_none, hh]
    have := run_slice_h W t ao n cap e1 kh (H : Int) (by omega) (by omega)
    simpa using this
  · exact hk _ _ (sl_sliced hS (Nat.zero_le _) h2)
theorem bytes_cut {w : World} {v : Value} {l : List Int} {L m : Nat} (h : Sl w 1 v m (((l.map (Value.int .u8)).drop (L * 1)).take (m * 1))) : Sl w 1 v m (((l.drop L).take m).map (Value.int .u8)) := by
  rw [Nat.mul_one, Nat.mul_one, ← List.map_drop, ← List.map_take] at h
  exact h
def FsPost (l : List Int) (w : World) (e : Ending) (w' : World) : Prop :=
  Below w.heap.size w w' ∧ ((firstF l = none ∧ ∃ a b, e = .returned (.tuple #[a, .int .i64 b, .bool false])) ∨ (∃ rec m rv, firstF l = some (rec, m) ∧ m ≤ l.length ∧ 9 ≤ m ∧ BytesL rec ∧ e = .returned (.tuple #[rv, .int .i64 (m : Nat), .bool true]) ∧ w'.ownsRow w.heap.size 5 1 rv rec.length (rec.map (Value.int .u8))))
set_option maxHeartbeats 4000000 in
set_option maxRecDepth 100000 in
theorem first_any (v : Value) (n : Nat) (l : List Int) (w : World) (hv : Sl w 1 v n (l.map (Value.int .u8))) (hl : l.length = n) (hb : BytesL l) (hn : n ≤ 140737488355328) :
    Calls Try.prog 37 #[v] w (FsPost l w) := by
  obtain ⟨ao, c, rfl, hnc, hc, _⟩ := hv.shape
  have HV := Lib.hid hv
  have HB := Lib.hid hb
  have HL := Lib.hid hl
  obtain ⟨T, hT⟩ : ∃ T, takeS 0 0 l = T := ⟨_, rfl⟩
  obtain ⟨n1, k1, e1⟩ := T
  have HT := Lib.hid hT
  have hTA := take_any _ n l w hv (bytesL_wf hb)
  rw [hT] at hTA
  have HTA := Lib.hid hTA
  clear hv hb hl hT hTA
  by_cases he : e1 = 0
  case neg =>
    have HF : Hid (firstF l = none) := Lib.hid (first_bad HT.out (Or.inl he))
    have t1 : (e1 != 0) = true := by rw [bne_iff_ne]; exact he
    clear he
    go_enter Try.func37, Try.ntmps37
    go_wp2_with fail
    refine HTA.out.mono ?_
    rintro e w1 ⟨rfl, rfl⟩
    unfold ret3
    go_wp2_with fail
    go_ret3
    exact ⟨Below.refl _ _, Or.inl ⟨HF.out, _, _, rfl⟩⟩
  have t1 : (e1 != 0) = false := by rw [he]; rfl
  have h0 := take_canon HB.out (by rw [HT.out, he])
  by_cases hbig : 2000 < n1
  · have HF : Hid (firstF l = none) := Lib.hid (first_bad HT.out (Or.inr (Or.inl hbig)))
    have h00 := h0.1
    clear h0
    go_enter Try.func37, Try.ntmps37
    go_wp2_with fail
    refine HTA.out.mono ?_
    rintro e w1 ⟨rfl, rfl⟩
    unfold ret3
    go_wp2_with fail
    go_ret3
    exact ⟨Below.refl _ _, Or.inl ⟨HF.out, _, _, rfl⟩⟩
  by_cases hlong : (l.length : Int) < k1 + n1 + 8
  · have HF : Hid (firstF l = none) := Lib.hid (first_bad HT.out (Or.inr (Or.inr hlong)))
    have h00 := h0.1
    have hk10 := putI_len 9 n1
    obtain ⟨p, hp⟩ : ∃ p, (putI 9 n1).length = p := ⟨_, rfl⟩
    rw [hp] at hk10
    have hk1 : k1 = (p : Int) := by rw [h0.2.1, hp]
    rw [HL.out] at hlong
    clear h0 hp
    go_enter Try.func37, Try.ntmps37
    go_wp2_with fail
    refine HTA.out.mono ?_
    rintro e w1 ⟨rfl, rfl⟩
    unfold ret3
    go_wp2_with fail
    go_ret3
    exact ⟨Below.refl _ _, Or.inl ⟨HF.out, _, _, rfl⟩⟩
  obtain ⟨n', k', rfl, rfl, hk1, hk10, hsum, hn2, hrl, hfl⟩ := parts HB.out HT.out he hbig hlong
  have HFE := Lib.hid (first_eq HT.out he hn2 hsum)
  rw [HL.out] at hsum
  obtain ⟨rec, hrec⟩ : ∃ r, (l.drop k').take n' = r := ⟨_, rfl⟩
  have HREC := Lib.hid hrec
  have hbr : BytesL rec := by rw [← hrec]; exact bytesL_take (bytesL_drop HB.out _) _
  rw [hrec] at hrl hfl
  have HRL := Lib.hid hrl
  have HFL := Lib.hid hfl
  have HBR := Lib.hid hbr
  obtain ⟨E, hE⟩ : ∃ E : Nat, (k' : Int) + (n' : Int) = E := ⟨k' + n', by omega⟩
  have hE2 : E = k' + n' := by omega
  obtain ⟨E8, hE8⟩ : ∃ E8 : Nat, (E : Int) + 8 = E8 := ⟨E + 8, by omega⟩
  have hE82 : E8 = k' + n' + 8 := by omega
  have hkn : k' ≤ n := by omega
  have hEn : E8 ≤ n := by omega
  have hkE : k' ≤ E := by omega
  have hEE : E ≤ n := by omega
  have HE2 := Lib.hid hE2
  have HE82 := Lib.hid hE82
  have HSUM := Lib.hid hsum
  subst he
  clear hE2 hE82 hsum h0 hbig hlong hrec hrl hfl hbr
  go_enter Try.func37, Try.ntmps37
  go_wp2_with fail
  refine HTA.out.mono ?_
  rintro e w1 ⟨rfl, rfl⟩
  unfold ret3
  go_wp2_with (with_reducible refine wpList_cut (o := ⟨some 41, _, _, _, _, _⟩) k' E elU8 rfl rfl rfl ⟨_, rfl⟩ ⟨_, rfl⟩ HV.out hkE hEE ?_; intro ao2 c2 hs2)
  have hs3 := bytes_cut hs2
  have hEk : E - k' = n' := by have := HE2.out; omega
  rw [hEk] at hs3 ⊢
  rw [HREC.out] at hs3
  have HS3 := Lib.hid hs3
  clear hs2 hs3 hEk
  go_wp2_with fail
  refine (clone_any _ n' rec _ HS3.out (by omega)).mono ?_
  rintro e w2 ⟨rv, rfl, hown2, hb2⟩
  have HO2 := Lib.hid hown2
  have hsr := own_sl hown2
  have HSR := Lib.hid hsr
  obtain ⟨ro, rc, rfl, _, _, _⟩ := hsr.shape
  clear hown2 hsr
  go_wp2_with fail
  refine (frame_any _ n' rec _ HSR.out HRL.out HBR.out hn2).mono ?_
  rintro e w3 ⟨fv, rfl, hown3, hb3⟩
  have hsf := own_sl hown3
  have HSF := Lib.hid hsf
  obtain ⟨fo, fc, rfl, _, _, _⟩ := hsf.shape
  have hb13 := hb2.trans (hb3.mono hb2.size)
  have HSR3 := Lib.hid (HSR.out.below hb3)
  have HV3 := Lib.hid (HV.out.below hb13)
  clear hown3 hsf
  go_wp2_with (with_reducible refine wpList_to (o := ⟨some 55, _, _, _, _, _⟩) E8 elU8 rfl rfl rfl ⟨_, rfl⟩ HV3.out hEn ?_; intro ao4 c4 hs4)
  have hs5 := bytes_cut hs4
  rw [List.drop_zero] at hs5
  have HE := Eqb.eqb_any _ _ (frm rec).length E8 (frm rec) (l.take E8) w3 HSF.out hs5 rfl (by rw [List.length_take, HL.out]; omega)
  obtain ⟨D, hD⟩ : ∃ D, decide (frm rec = l.take E8) = D := ⟨_, rfl⟩
  have HD := Lib.hid hD
  rw [hD] at HE
  have HEE := Lib.hid HE
  clear HE hs4 hs5 hD
  go_wp2_with fail
  refine HEE.out.mono ?_
  rintro e w4 ⟨rfl, hb4⟩
  have hfin := hb13.trans (hb4.mono hb13.size)
  go_wp2_with fail
  go_ret3
  refine ⟨hfin, ?_⟩
  have hfe := HFE.out
  rw [HREC.out, ← HE82.out] at hfe
  cases D with
  | true =>
    rw [if_pos (of_decide_eq_true HD.out)] at hfe
    have := HSUM.out
    have h82 := HE82.out
    exact Or.inr ⟨rec, E8, _, hfe, by rw [HL.out]; exact hEn, by omega, HBR.out, rfl, by rw [HRL.out]; exact own_below (own_below HO2.out hb3) hb4⟩
  | false =>
    rw [if_neg (of_decide_eq_false HD.out)] at hfe
    exact Or.inl ⟨hfe, _, _, rfl⟩
end Go.Proofs.Ytckpabminhkndaa.Log
