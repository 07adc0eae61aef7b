/-
  The walk of Frames.
-/
import Derived.Test.YtckpabminhkndaaLog3
namespace Go.Proofs.Ytckpabminhkndaa.Log
open Go.RowKit Go.Gh Go.WideShapes Go.Proofs.Ytckpabminhkndaa.Bits Go.Proofs.Ytckpabminhkndaa.Hash
set_option linter.unusedVariables false
theorem sliced_block {a : Option Addr} {L H m s : Nat} {b : Nat} (h : (sliced a L H m s).ownBlock = some b) : ∃ x, a = some x ∧ x.block = b := by
  unfold sliced at h
  cases a with
  | none => split at h <;> simp [Value.ownBlock] at h
  | some x =>
    refine ⟨x, rfl, ?_⟩
    split at h
    · simpa [Value.ownBlock] using h
    · simp only [Option.map_some, Value.ownBlock, Option.some.injEq] at h
      rw [← h]
      unfold Addr.add
      split <;> rfl
/-- x[lo:hi], its block too. -/
theorem wpList_cutB {P : Program} {ops : Array Oper} {rest : List Oper} {o : Oper} {a : Act} {Q : Exit → Act → World → Prop} {W W0 : World} {t e : TypeId} {size bytes n cap : Nat} {ao : Option Addr} {x l h : Operand} {xs : List Value} (L H : Nat) (el : Elem P t e size bytes) (hgd : o.guard = none)
    (ho : o.op = .slice t x (some l) (some h) none) (hx : a.eval x = .slice ao n cap) (hl : ∃ k, a.eval l = .int k L) (hh : ∃ k, a.eval h = .int k H) (hS : Sl W0 size (.slice ao n cap) n xs) (h1 : L ≤ H) (h2 : H ≤ n)
    (hk : ∀ a2 c, Sl W0 size (.slice a2 (H - L) c) (H - L) ((xs.drop (L * size)).take ((H - L) * size)) → (∀ b, (Value.slice a2 (H - L) c).ownBlock = some b → ∃ y, ao = some y ∧ y.block = b) → wpList P ops Q rest (a.put o.dst (.slice a2 (H - L) c)) W) : wpList P ops Q (o :: rest) a W := by
  obtain ⟨e1, e2⟩ := elem_eq el
  obtain ⟨kl, hl⟩ := hl
  obtain ⟨kh, hh⟩ := hh
  have hcap : n ≤ cap := by
    obtain ⟨ao', cap', e, g, _⟩ := hS
    simp at e
    obtain ⟨rfl, rfl⟩ := e
    exact g
  refine wpList_run hgd (exec_slice (L := L) (H := H) el ho hx ?_) ?_
  · simp only [Option.map_some, hl, hh]
    have := run_slice_lh W t ao n cap e1 kl kh (L : Int) (H : Int) (by omega) (by omega) (by omega)
    simpa using this
  · exact hk _ _ (sl_sliced hS h1 h2) (fun b hb => sliced_block hb)
theorem bstr_cmp {a b : List Int} (ha : BytesL a) (hb : BytesL b) : ((bstr a).toList == (bstr b).toList) = decide (a = b) := by
  by_cases h : a = b
  · rw [h]; simp
  · rw [decide_eq_false h, beq_eq_false_iff_ne]
    intro he
    refine h (bstr_inj (bytesL_wf ha) (bytesL_wf hb) ?_)
    rw [ByteArray.toList_eq, ByteArray.toList_eq] at he
    exact bytes_inj he
set_option maxHeartbeats 8000000 in
set_option maxRecDepth 100000 in
theorem frames_any (v : Value) (n : Nat) (l : List Int) (w : World) (hv : Sl w 1 v n (l.map (Value.int .u8))) (hl : l.length = n) (hb : BytesL l) (hn : n ≤ 100000) :
    Calls Try.prog 23 #[v] w (CutPost l w) := by
  obtain ⟨ao, c, rfl, hnc, hc, _⟩ := hv.shape
  have HV := Lib.hid hv
  have HB := Lib.hid hb
  have HL := Lib.hid hl
  obtain ⟨R, hR⟩ : ∃ R, cutF (l.length + 1) l = R := ⟨_, rfl⟩
  have HR := Lib.hid hR
  have HR0 : Hid (cutF (n + 1) l = R) := Lib.hid (by rw [← hR, hl])
  clear hv hb hl hR
  go_enter Try.func23, Try.ntmps23
  go_wp2_with fail
  go_loopw [4, 5] (fun u i wx => ∃ (at' f m : Nat) (vs : List Value) (L : List (List Int)), at' ≤ n ∧ n - at' < 9 * f ∧ 9 * m ≤ at' ∧ i = .int .i64 at' ∧ Hid (R = (L ++ (cutF f (l.drop at')).1, at' + (cutF f (l.drop at')).2)) ∧ Hid (L.length = m) ∧ Hid (wx.ownsRow w.heap.size 23 1 u m vs) ∧ Hid (RowsT wx w.heap.size vs L) ∧ Hid (Below w.heap.size w wx)) (fun _ i _ => n - (intOf i).toNat)
  case atStart => exact ⟨0, n + 1, 0, [], [], by omega, by omega, by omega, rfl, Lib.hid (by rw [← HR0.out]; simp), rfl, Lib.hid (World.ownsRow_nil _ _ _ _), Lib.hid (RowsT.nil _ _), Lib.hid (Below.refl _ _)⟩
  case round =>
    obtain ⟨at', f, m, vs, L, hat, hf, hm, rfl, HREL, HLM, HO, HRT, HBW⟩ := hrel
    obtain ⟨uo, uc, rfl, _, _, _⟩ := own_shape HO.out
    have HVr := Lib.hid (HV.out.below HBW.out)
    have hsz := HBW.out.size
    obtain ⟨f, rfl⟩ : ∃ g, f = g + 1 := ⟨f - 1, by omega⟩
    have HBD := Lib.hid (bytesL_drop HB.out at')
    have HDL : Hid ((l.drop at').length = n - at') := Lib.hid (by rw [List.length_drop, HL.out])
    obtain ⟨T, hT⟩ : ∃ T, takeS 0 0 (l.drop at') = T := ⟨_, rfl⟩
    obtain ⟨n1, k1, e1⟩ := T
    have HT := Lib.hid hT
    clear hT
    go_wp2_with (with_reducible refine wpList_from (o := ⟨some 14, _, _, _, _, _⟩) at' elU8 rfl rfl rfl ⟨_, rfl⟩ HVr.out hat ?_; intro ao2 c2 hs2)
    have hs3 := bytes_cut hs2
    rw [List.take_of_length_le (by rw [HDL.out]; exact Nat.le_refl _)] at hs3
    have hNO := numof_any _ (n - at') (l.drop at') wr hs3 (bytesL_wf HBD.out)
    rw [HT.out] at hNO
    have HNO := Lib.hid hNO
    clear hs2 hs3 hNO
    go_wp2_with fail
    refine HNO.out.mono ?_
    rintro e w2 ⟨rfl, rfl⟩
    unfold ret3
    by_cases he : e1 = 0
    case neg =>
      have HE : Hid (R = (L, at')) := Lib.hid (by rw [HREL.out, cut_none f (first_bad HT.out (Or.inl he))]; simp)
      have t1 : (e1 != 0) = true := by rw [bne_iff_ne]; exact he
      clear he HREL
      go_wp2_with fail
      go_ret2
      show CutPost _ _ _ _
      unfold CutPost
      rw [HR.out, HE.out]
      exact ⟨_, vs, rfl, by rw [HLM.out]; exact own_sl HO.out, HRT.out, HBW.out⟩
    have t1 : (e1 != 0) = false := by rw [he]; rfl
    have h0 := take_canon HBD.out (by rw [HT.out, he])
    by_cases hbig : 2000 < n1
    · have HE : Hid (R = (L, at')) := Lib.hid (by rw [HREL.out, cut_none f (first_bad HT.out (Or.inr (Or.inl hbig)))]; simp)
      have h00 := h0.1
      clear h0 HREL
      go_wp2_with fail
      go_ret2
      show CutPost _ _ _ _
      unfold CutPost
      rw [HR.out, HE.out]
      exact ⟨_, vs, rfl, by rw [HLM.out]; exact own_sl HO.out, HRT.out, HBW.out⟩
    by_cases hlong : ((l.drop at').length : Int) < k1 + n1 + 8
    · have HE : Hid (R = (L, at')) := Lib.hid (by rw [HREL.out, cut_none f (first_bad HT.out (Or.inr (Or.inr hlong)))]; simp)
      have h00 := h0.1
      have hk10 := putI_len 9 n1
      obtain ⟨p, hp⟩ : ∃ p, (putI 9 n1).length = p := ⟨_, rfl⟩
      rw [hp] at hk10
      have hk1 : k1 = (p : Int) := by rw [h0.2.1, hp]
      rw [HDL.out] at hlong
      clear h0 hp HREL
      subst hk1
      go_wp2_with fail
      go_ret2
      show CutPost _ _ _ _
      unfold CutPost
      rw [HR.out, HE.out]
      exact ⟨_, vs, rfl, by rw [HLM.out]; exact own_sl HO.out, HRT.out, HBW.out⟩
    obtain ⟨n', k', rfl, rfl, hk1, hk10, hsum, hn2, hrl, hfl⟩ := parts HBD.out HT.out he hbig hlong
    have HFE := Lib.hid (first_eq HT.out he hn2 hsum)
    rw [HDL.out] at hsum
    obtain ⟨rec, hrec⟩ : ∃ r, ((l.drop at').drop k').take n' = r := ⟨_, rfl⟩
    have hbr : BytesL rec := by rw [← hrec]; exact bytesL_take (bytesL_drop HBD.out _) _
    rw [hrec] at hrl hfl
    have HRL := Lib.hid hrl
    have HBR := Lib.hid hbr
    have HREC : Hid ((l.drop (at' + k')).take n' = rec) := Lib.hid (by rw [← hrec, List.drop_drop])
    have HRECD := Lib.hid hrec
    obtain ⟨F, hF⟩ : ∃ F, k' + n' + 8 = F := ⟨_, rfl⟩
    have HF8 := Lib.hid hF
    rw [hF] at hfl hsum
    have HFL := Lib.hid hfl
    obtain ⟨P1, hP1⟩ : ∃ P : Nat, (at' : Int) + (k' : Int) = P := ⟨at' + k', by omega⟩
    obtain ⟨P2, hP2⟩ : ∃ P : Nat, (P1 : Int) + (n' : Int) = P := ⟨P1 + n', by omega⟩
    obtain ⟨P3, hP3⟩ : ∃ P : Nat, (at' : Int) + (F : Int) = P := ⟨at' + F, by omega⟩
    have HP1 : Hid (P1 = at' + k') := Lib.hid (by omega)
    have HP2 : Hid (P2 = P1 + n') := Lib.hid (by omega)
    have HP3 : Hid (P3 = at' + F) := Lib.hid (by omega)
    have h12 : P1 ≤ P2 := by omega
    have h2n : P2 ≤ n := by omega
    have h3n : P3 ≤ n := by omega
    have h8 : (P2 : Int) + 8 ≤ n := by omega
    have hatl : at' < n := by omega
    have hF9 : 9 ≤ F := by omega
    have hFn : F ≤ n := by omega
    subst he
    clear h0 hbig hlong hrec hrl hfl hbr hF hsum
    go_wp2_with (with_reducible refine wpList_cutB (o := ⟨some 49, _, _, _, _, _⟩) P1 P2 elU8 rfl rfl rfl ⟨_, rfl⟩ ⟨_, rfl⟩ HVr.out h12 h2n ?_; intro ao4 c4 hs4 hblk)
    have hs5 := bytes_cut hs4
    have hPP : P2 - P1 = n' := by have := HP2.out; omega
    rw [hPP, HP1.out, HREC.out] at hs5
    rw [hPP] at hblk ⊢
    have HS5 := Lib.hid hs5
    have HBLK := Lib.hid hblk
    clear hs4 hs5 hPP hblk
    refine (framed_any _ n' rec _ HS5.out HRL.out HBR.out hn2).mono ?_
    rintro e w3 ⟨fv, rfl, hown3, hb3⟩
    rw [HFL.out] at hown3
    have hsf := own_sl hown3
    obtain ⟨fo, fc, rfl, _, _, _⟩ := hsf.shape
    have HBW3 := Lib.hid (HBW.out.trans (hb3.mono hsz))
    have hsz3 := HBW3.out.size
    have HO3 := Lib.hid (own_below HO.out hb3)
    have HRT3 := Lib.hid (HRT.out.below hb3)
    have HV3 := Lib.hid (HV.out.below HBW3.out)
    have HS53 := Lib.hid (HS5.out.below hb3)
    have hao : ∃ b off, ao = some ⟨b, off, none⟩ ∧ b < w.heap.size := by
      obtain ⟨ao', cap', e, _, _, _, hlen, h6⟩ := HV.out
      simp at e
      obtain ⟨rfl, rfl⟩ := e
      obtain ⟨b, off, rfl, hcell⟩ := h6 (by omega)
      obtain ⟨u, hu⟩ : ∃ u, (l.map (Value.int .u8))[0]? = some u := ⟨_, List.getElem?_eq_getElem (by rw [hlen]; omega)⟩
      exact ⟨b, off, rfl, cell_lt (hcell 0 u hu)⟩
    obtain ⟨bI, off, rfl, hbI⟩ := hao
    have hdr : Below w3.heap.size w3 w3.drew := (Below.refl _ _).drew
    have hsub : Sl w3 1 (.slice (some ⟨bI, off + at', none⟩) F (c - at')) F (((l.drop at').take F).map (Value.int .u8)) := by
      have h := sl_sliced HV3.out (L := at') (H := P3) (by have := HP3.out; omega) h3n
      have hPF : P3 - at' = F := by have := HP3.out; omega
      unfold sliced at h
      rw [if_neg (by omega), Option.map_some, addr_add, hPF] at h
      have h' := bytes_cut h
      simpa using h'
    have c1 := fun k => run_bytes (dst := 9) Try.underlying23 Try.underlying5 Try.underlying9 (hsf.below (below_drewN (Below.refl _ w3) k))
    have c2' := fun k => run_bytes (dst := 9) Try.underlying23 Try.underlying5 Try.underlying9 (hsub.below (below_drewN (Below.refl _ w3) k))
    have hcmp := bstr_cmp (a := frm rec) (b := (l.drop at').take F) (by unfold frm; exact bytesL_append (bytesL_append (fun z hz => by have := putI_wf 9 (rec.length : Int) (by omega) (lt_fuel (by have := HRL.out; omega)) z hz; simp [Lit.wf, IntKind.min, IntKind.max, IntKind.signed, IntKind.bits] at this; omega) HBR.out) (h8_bytes _)) (bytesL_take HBD.out _)
    obtain ⟨D, hD⟩ : ∃ D, decide (frm rec = (l.drop at').take F) = D := ⟨_, rfl⟩
    have HD := Lib.hid hD
    rw [hD] at hcmp
    generalize bstr (frm rec) = sa at *
    generalize bstr ((l.drop at').take F) = sb at *
    have hca : ¬ c = at' := by omega
    have hPF : P3 - at' = F := by have := HP3.out; omega
    have hapl : at' ≤ P3 := by omega
    clear hown3 hsf hsub hD
    go_upto_region 8 with (fail)
    go_cut [62] (fun t wx => t = .bool (!D) ∧ Below w3.heap.size w3 wx)
    case first =>
      go_quiet (fail)
      go_wp2
      go_meet
      exact ⟨rfl, below_drewN (Below.refl _ w3) _⟩
    obtain ⟨rfl, hb4⟩ := hcut
    have hfe := HFE.out
    rw [HRECD.out, HF8.out] at hfe
    have HBW4 := Lib.hid (HBW3.out.trans (hb4.mono hsz3))
    have HO4 := Lib.hid (own_below HO3.out hb4)
    have HRT4 := Lib.hid (HRT3.out.below hb4)
    have HS54 := Lib.hid (HS53.out.below hb4)
    clear c1 c2' hcmp HO3 HRT3 HS53
    cases D with
    | false =>
      rw [if_neg (of_decide_eq_false HD.out)] at hfe
      have HE : Hid (R = (L, at')) := Lib.hid (by rw [HREL.out, cut_none f hfe]; simp)
      clear hfe HREL HFE
      go_wp2_with fail
      go_ret2
      show CutPost _ _ _ _
      unfold CutPost
      rw [HR.out, HE.out]
      exact ⟨_, vs, rfl, by rw [HLM.out]; exact own_sl HO4.out, HRT4.out, HBW4.out⟩
    | true =>
      rw [if_pos (of_decide_eq_true HD.out)] at hfe
      have HRn : Hid (R = ((L ++ [rec]) ++ (cutF f (l.drop (at' + F))).1, (at' + F : Nat) + (cutF f (l.drop (at' + F))).2)) := Lib.hid (by
        rw [HREL.out, cut_some f hfe, List.drop_drop]
        simp [Nat.add_assoc])
      have hsz4 := HBW4.out.size
      have HSB : Hid (SB wc w.heap.size (.slice ao4 n' c4) rec) := Lib.hid ⟨by rw [HRL.out]; exact HS54.out, HBR.out, rfl, fun b hb => by
        obtain ⟨y, hy, hyb⟩ := HBLK.out b hb
        have : y = ⟨bI, off, none⟩ := (Option.some.inj hy).symm
        rw [this] at hyb
        have hbb : bI = b := hyb
        exact Or.inl ⟨by omega, by omega⟩⟩
      have hown4 := HO4.out
      have hatF : at' + F ≤ n := by have := HP3.out; omega
      clear hfe HREL HFE
      go_wp2_with (at_builtin; refine append1 [.slice ao4 n' c4] elSl rfl _ _ rfl hown4 HBW4.out hsz4 rfl rfl rfl (by intro x hx; simp at hx; subst hx; rfl) ?c4 ?c5 ?_)
      case c4 => omega
      case c5 => omega
      intro v' w5 hown5 hb5 hg5
      have HO5 := Lib.hid hown5
      have HBW5 := Lib.hid hb5
      have HRT5 : Hid (RowsT w5 w.heap.size (vs ++ [.slice ao4 n' c4]) (L ++ [rec])) := Lib.hid ((HRT4.out.grown hown4 hg5).snoc (HSB.out.grown hown4 hg5))
      have HLM5 : Hid ((L ++ [rec]).length = m + 1) := Lib.hid (by rw [List.length_append, HLM.out]; rfl)
      have hP3e := HP3.out
      have HP3b : Hid (P3 = at' + F) := HP3
      clear hown5 hb5 hg5 hown4 hP3e
      go_wp2_with fail
      go_roundw
      case rel => exact ⟨at' + F, f, m + 1, _, _, by omega, by omega, by omega, by have := HP3.out; first | rfl | (rw [this]) | go_num, HRn, HLM5, HO5, HRT5, HBW5⟩
      case measure => have := HP3.out; simp [intOf]; omega
end Go.Proofs.Ytckpabminhkndaa.Log
