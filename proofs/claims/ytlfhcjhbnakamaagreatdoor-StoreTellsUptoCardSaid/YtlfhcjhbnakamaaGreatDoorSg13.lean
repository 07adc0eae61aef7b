/-
  Labels: the walk of MatchesAt.
-/
import Derived.Test.YtlfhcjhbnakamaaGreatDoorSg12
import Derived.Deep.CutBlock
namespace Go.Proofs.YtlfhcjhbnakamaaGreatDoor.Lab
open Go.RowKit Go.Gh
set_option linter.unusedVariables false
set_option linter.unusedSimpArgs false
def MaP (w : World) (r : Option (List Mt × By)) (e : Ending) (w' : World) : Prop := Below w.heap.size w w' ∧ match r with
  | none => e = .returned (.tuple #[.slice none 0 0, .string ⟨#[]⟩, .bool false])
  | some (ms, z) => ∃ v, e = .returned (.tuple #[v, .string (mkS z), .bool true]) ∧ Ow MtR 3 70 w.heap.size w' v ms
theorem maP_none {w w' : World} {r : Option (List Mt × By)} {e : Ending} (hr : r = none) (hb : Below w.heap.size w w') (he : e = .returned (.tuple #[.slice none 0 0, .string ⟨#[]⟩, .bool false])) : MaP w r e w' := by
  subst hr
  exact ⟨hb, he⟩
theorem maP_some {w w' : World} {r : Option (List Mt × By)} {e : Ending} {ms : List Mt} {z : By} {v : Value} (hr : r = some (ms, z)) (hb : Below w.heap.size w w') (he : e = .returned (.tuple #[v, .string (mkS z), .bool true])) (ho : Ow MtR 3 70 w.heap.size w' v ms) : MaP w r e w' := by
  subst hr
  exact ⟨hb, v, he, ho⟩
/-- What the round's match decides. -/
def OneTo (t u : By) (O : List Mt) : Prop := (oneP u = none → RrR t [] none) ∧ ∀ m b, oneP u = some (m, b) → ∀ res, RrR b (O ++ [m]) res → RrR t [] res
/-- The round's own match: its box, and nothing else turned. -/
structure MBx (wr wx : World) (G : Nat) (k : Int) (a b : ByteArray) : Prop where
  box : wx.heap[G]? = some (.cells #[.int .i64 k, .string a, .string b] 70 (0, 0))
  bel : Below wr.heap.size wr wx
theorem MBx.set0 {wr wx : World} {G : Nat} {k : Int} {a b : ByteArray} (h : MBx wr wx G k a b) (hG : wr.heap.size ≤ G) (k' : Int) : MBx wr (wx.setCell ⟨G, 0, none⟩ (.int .i64 k')) G k' a b :=
  ⟨row_setCell 0 _ h.box, h.bel.setCell (p := ⟨G, 0, none⟩) hG _⟩
theorem MBx.set1 {wr wx : World} {G : Nat} {k : Int} {a b : ByteArray} (h : MBx wr wx G k a b) (hG : wr.heap.size ≤ G) (a' : ByteArray) : MBx wr (wx.setCell ⟨G, 1, none⟩ (.string a')) G k a' b :=
  ⟨row_setCell 1 _ h.box, h.bel.setCell (p := ⟨G, 1, none⟩) hG _⟩
theorem MBx.set2 {wr wx : World} {G : Nat} {k : Int} {a b : ByteArray} (h : MBx wr wx G k a b) (hG : wr.heap.size ≤ G) (b' : ByteArray) : MBx wr (wx.setCell ⟨G, 2, none⟩ (.string b')) G k a b' :=
  ⟨row_setCell 2 _ h.box, h.bel.setCell (p := ⟨G, 2, none⟩) hG _⟩
theorem MBx.drew {wr wx : World} {G : Nat} {k : Int} {a b : ByteArray} (h : MBx wr wx G k a b) (q : Nat) : MBx wr (wx.drewN q) G k a b := ⟨h.box, below_drewN h.bel q⟩
theorem MBx.drew1 {wr wx : World} {G : Nat} {k : Int} {a b : ByteArray} (h : MBx wr wx G k a b) : MBx wr wx.drew G k a b := ⟨h.box, h.bel.drew⟩
theorem opB_nat (d : UInt8) : opB d = decide (d.toNat = 33 ∨ d.toNat = 61) := by
  rw [Bool.eq_iff_iff]
  unfold opB
  have e1 : (33 : UInt8).toNat = 33 := rfl
  have e2 : (61 : UInt8).toNat = 61 := rfl
  simp only [Bool.or_eq_true, decide_eq_true_eq, ← UInt8.toNat_inj, e1, e2]
/-- Where the name's loop stands. -/
def NmAt (l : By) (j k : Nat) (a : ByteArray) : Prop := ∃ pre : By, a = mkS pre ∧ pre.length ≤ k ∧ ((l.drop j).takeWhile fun b => !opB b) = pre ++ ((l.drop k).takeWhile fun b => !opB b) ∧ ((l.drop j).dropWhile fun b => !opB b) = ((l.drop k).dropWhile fun b => !opB b)
theorem NmAt.next {l : By} {j k : Nat} {a : ByteArray} {d : UInt8} (h : NmAt l j k a) (hd : l[k]? = some d) (ho : opB d = false) : NmAt l j (k + 1) (a ++ mkS [d]) := by
  obtain ⟨pre, rfl, h1, h2, h3⟩ := h
  rw [drop_s hd] at h2 h3
  simp only [List.takeWhile_cons, List.dropWhile_cons, ho, Bool.not_false, if_true] at h2 h3
  exact ⟨pre ++ [d], mkS_app _ _, by simp; omega, by rw [h2]; simp, h3⟩
theorem NmAt.size {l : By} {j k : Nat} {a : ByteArray} (h : NmAt l j k a) : a.size ≤ k := by
  obtain ⟨pre, rfl, h1, -⟩ := h
  rw [mkS_size]
  exact h1
/-- The name is read: it ends at k. -/
def NmEnd (l : By) (j k : Nat) (a : ByteArray) : Prop := a = mkS ((l.drop j).takeWhile fun b => !opB b) ∧ ((l.drop j).dropWhile fun b => !opB b) = l.drop k
theorem NmAt.stop {l : By} {j k : Nat} {a : ByteArray} (h : NmAt l j k a) (ho : ∀ d, l[k]? = some d → opB d = true) : NmEnd l j k a := by
  obtain ⟨pre, rfl, h1, h2, h3⟩ := h
  have : ((l.drop k).takeWhile fun b => !opB b) = [] ∧ ((l.drop k).dropWhile fun b => !opB b) = l.drop k := by
    cases hk : l[k]? with
    | none =>
      rw [List.drop_of_length_le (List.getElem?_eq_none_iff.1 hk)]
      exact ⟨rfl, rfl⟩
    | some d =>
      rw [drop_s hk]
      simp [List.takeWhile_cons, List.dropWhile_cons, ho d hk]
  rw [this.1, List.append_nil] at h2
  rw [this.2] at h3
  exact ⟨by rw [h2], h3⟩
/-- The sign is read, or there is none. -/
def SgEnd (l : By) (k j4 : Nat) (κ : Int) : Prop := (κ = 0 ∧ sgnAt (l.drop k) = none) ∨ (1 ≤ κ ∧ κ ≤ 4 ∧ l.drop k = sgn κ ++ 34 :: l.drop j4)
theorem one_nosign {l : By} {j k : Nat} {a : ByteArray} (h : NmEnd l j k a) (hs : sgnAt (l.drop k) = none) : oneP (l.drop j) = none := by
  unfold oneP
  rw [h.2, hs]
theorem one_fin {l : By} {j k j4 : Nat} {a : ByteArray} {κ : Int} (h : NmEnd l j k a) (h1 : 1 ≤ κ) (h2 : κ ≤ 4) (hs : l.drop k = sgn κ ++ 34 :: l.drop j4) : oneP (l.drop j) = match unq (l.drop j4) [] with | none => none | some (v, r') => some (⟨κ, (l.drop j).takeWhile fun b => !opB b, v⟩, r') := by
  obtain ⟨q, rfl⟩ : ∃ q : Nat, κ = (q : Int) := ⟨κ.toNat, by omega⟩
  exact one_at (by omega) (by omega) (by rw [h.2]; exact hs)
/-- The table of signs: with the quote behind each. -/
def TS (q : Nat) : By := if q = 0 then [] else sgn (q : Int) ++ [34]
theorem ts_cell {w : World} {q : Nat} (hq : q < 5) : (w.alloc (Obj.cells #[.string ⟨#[]⟩, .string ⟨#[61, 34]⟩, .string ⟨#[33, 61, 34]⟩, .string ⟨#[61, 94, 34]⟩, .string ⟨#[61, 126, 34]⟩] 9)).cell? ⟨w.heap.size, q, none⟩ = some (.string (mkS (TS q))) := by
  refine (row_cell q _ (heap_alloc_new w _) ?_).1
  have : q = 0 ∨ q = 1 ∨ q = 2 ∨ q = 3 ∨ q = 4 := by omega
  rcases this with rfl | rfl | rfl | rfl | rfl <;> rfl
theorem ts_len (q : Nat) : (TS q).length ≤ 3 := by
  unfold TS
  split
  · decide
  · have := sgn_le (q : Int)
    rw [List.length_append, List.length_singleton]
    omega
theorem drop_pre {l p : By} {k : Nat} (h : p.isPrefixOf (l.drop k) = true) : l.drop k = p ++ l.drop (k + p.length) ∧ k + p.length ≤ l.length ∨ p = [] := by
  have h1 := pre_some h
  rw [List.drop_drop] at h1
  rcases Nat.eq_zero_or_pos p.length with h0 | h0
  · exact Or.inr (List.length_eq_zero_iff.1 h0)
  · refine Or.inl ⟨h1, ?_⟩
    have := congrArg List.length h1
    rw [List.length_append, List.length_drop, List.length_drop] at this
    omega
set_option maxHeartbeats 16000000 in
set_option maxRecDepth 100000 in
theorem mats_any (l : By) (w : World) (hsz : l.length ≤ 1048576) : Calls Tryz.prog 29 #[.string (mkS l)] w (MaP w (maF l)) := by
  have hml := mkS_size l
  have HG := Lib.hid (mkS_get l)
  have HX := Lib.hid (mkS_ext l)
  have hlist := mkS_list l
  obtain ⟨R, hR⟩ : ∃ R, maF l = R := ⟨_, rfl⟩
  rw [hR]
  have HR := Lib.hid hR
  clear hR
  obtain ⟨S, hS⟩ : ∃ z, mkS l = z := ⟨_, rfl⟩
  rw [hS] at hml HG HX hlist ⊢
  have HS := Lib.hid hS
  obtain ⟨n, hn⟩ : ∃ n, S.size = n := ⟨_, rfl⟩
  rw [hn] at hml
  have HL := Lib.hid hml.symm
  have hn63 : n ≤ 1048576 := by omega
  clear hS hml
  by_cases h0 : ∃ t, l = 123 :: t
  case neg =>
    have HN : Hid (R = none) := Lib.hid (by rw [← HR.out]; exact ma_none (fun t e => h0 ⟨t, e⟩))
    rcases Nat.eq_zero_or_pos n with hz | hpos
    · have hie : S.toList.isEmpty = true := by
        rw [hlist, List.length_eq_zero_iff.1 (HL.out.trans hz)]
        rfl
      clear hlist hsz h0 hz
      go_enter Tryz.func29, Tryz.ntmps29
      go_wp2_with fail
      go_ret3
      exact maP_none HN.out (Below.refl _ _) rfl
    · have h0s : 0 < S.size := by omega
      have h0l : 0 < l.length := by rw [HL.out]; exact hpos
      obtain ⟨m, hm⟩ : ∃ m, (S[0]'h0s).toNat = m := ⟨_, rfl⟩
      have hm123 : ((m : Int) != 123) = true := by
        rw [bne_iff_ne]
        intro e
        have e2 : m = 123 := by omega
        rw [HG.out 0 h0s h0l] at hm
        match l, h0l, h0, hm with
        | c :: r, _, h0, hm =>
          have : c = 123 := by rw [← UInt8.toNat_inj]; exact hm.trans e2
          exact h0 ⟨r, by rw [this]⟩
      have hie : S.toList.isEmpty = false := by
        rw [hlist, List.isEmpty_eq_false_iff]
        intro e
        rw [e] at h0l
        simp at h0l
      clear hlist hsz h0 h0l
      go_enter Tryz.func29, Tryz.ntmps29
      go_wp2_with fail
      go_ret3
      exact maP_none HN.out (Below.refl _ _) rfl
  obtain ⟨t, ht⟩ := h0
  have hn1 : 1 ≤ n := by rw [← HL.out, ht]; simp
  have h0s : 0 < S.size := by omega
  have hg0 : (S[0]'h0s).toNat = 123 := by
    rw [HG.out 0 h0s (by rw [HL.out]; omega)]
    simp [ht]
  have hie : S.toList.isEmpty = false := by rw [hlist, ht]; rfl
  have HTT := Lib.hid ht
  have HD1 : Hid (l.drop 1 = t) := Lib.hid (by rw [ht]; rfl)
  clear hlist ht hsz
  go_enter Tryz.func29, Tryz.ntmps29
  go_wp2_with fail
  go_loopg [5, 6] n (fun g o iv wr => ∃ (i q : Nat) (O : List Mt), i + g = n + 1 ∧ i ≤ n ∧ iv = .int .i64 i ∧ Hid (O.length = q) ∧ 3 * q ≤ i ∧ Hid (Ow MtR 3 70 w.heap.size wr o O) ∧ Hid (∀ res, RrR (l.drop i) O res → RrR t [] res) ∧ Below w.heap.size w wr)
  case atStart => exact ⟨1, 0, [], by omega, hn1, rfl, Lib.hid rfl, by omega, Lib.hid Ow.nil, Lib.hid (fun res h => by rw [HD1.out] at h; exact h), Below.refl _ _⟩
  case round =>
    obtain ⟨i, q, O, hig, hin, rfl, HQ, hq, HO, HC, hbel⟩ := hrel
    obtain ⟨wB, rfl⟩ : ∃ x, x = wr := ⟨_, rfl⟩
    obtain ⟨uo, uc, rfl, hu1, hu2⟩ := Sp.shapeN HO.out.sp HQ.out
    by_cases hlt : i < n
    case neg =>
      obtain rfl : i = n := by omega
      have HN : Hid (R = none) := Lib.hid (by
        have h := HC.out none (by rw [List.drop_of_length_le (by rw [HL.out]; exact Nat.le_refl _)]; exact RrR.out O)
        rcases ma_ref HTT.out h with ⟨ms, z, e1, -⟩ | ⟨-, e⟩
        · simp at e1
        · rw [← HR.out]; exact e)
      have hself : ((i : Int) == (i : Int)) = true := by simp
      go_wp2_with fail
      go_quiet (fail)
      go_wp2_with fail
      go_ret3
      exact maP_none HN.out (below_drewN hbel _) rfl
    have hks : i < S.size := by rw [hn]; exact hlt
    have hlk : i < l.length := by rw [HL.out]; exact hlt
    obtain ⟨d, hd⟩ : ∃ d, l[i]? = some d := ⟨_, List.getElem?_eq_getElem hlk⟩
    obtain ⟨m, hm⟩ : ∃ m, d.toNat = m := ⟨_, rfl⟩
    have hgk : (S[i]'hks).toNat = m := by
      rw [HG.out i hks hlk, (List.getElem?_eq_some_iff.1 hd).2]
      exact hm
    have hdr := drop_s hd
    have ed : ∀ c : UInt8, (m = c.toNat) = (d = c) := fun c => by rw [← hm, eq_iff_iff]; exact toNat_eq d c
    have e125 := ed 125
    have e44 := ed 44
    have k125 : (125 : UInt8).toNat = 125 := rfl
    have k44 : (44 : UInt8).toNat = 44 := rfl
    rw [k125] at e125
    rw [k44] at e44
    clear ed k125 k44
    by_cases g1 : m = 125
    · have HCZ : Hid (RrR t [] (some (O, l.drop (i + 1)))) := Lib.hid (HC.out _ (by
        rw [hdr]
        have : d = 125 := by rw [← e125]; exact g1
        rw [this]
        exact RrR.close _ _))
      have hne : ((i : Int) == (n : Int)) = false := beq_eq_false_iff_ne.2 (by omega)
      have hb125 : ((m : Int) != 125) = false := by rw [g1]; rfl
      have hRZ := ma_ref HTT.out HCZ.out
      rw [HR.out] at hRZ
      have HRZ := Lib.hid hRZ
      obtain ⟨E, hE⟩ : ∃ E, matchF O = E := ⟨_, rfl⟩
      have HE := Lib.hid hE
      have HMF := Lib.hid (fun W (hb : Below wB.heap.size wB W) => mtfault_any (.slice uo q uc) O W (HO.out.sp.below mtR_mono hb))
      rw [hE] at HMF
      have HBD : Hid (Below wB.heap.size wB wB.drew) := Lib.hid (Below.refl _ _).drew
      have hwk : IntKind.i64.wrap ((i : Int) + 1) = (i : Int) + 1 := IntWalk.i64_in _ (by omega)
      have hk1t : ((i : Int) + 1).toNat = i + 1 := by omega
      have hkn1 : (i : Int) + 1 ≤ (n : Int) := by omega
      have hk01 : (0 : Int) ≤ (i : Int) + 1 := by omega
      clear e125 e44 hdr hRZ hE hd hm hlk g1
      by_cases hz : E = 0
      case neg =>
        have t1 : (E != 0) = true := by rw [bne_iff_ne]; exact hz
        have HN : Hid (R = none) := Lib.hid (by
          rcases HRZ.out with ⟨ms, z, e1, e2, -⟩ | ⟨-, h⟩
          · injection e1 with e1
            injection e1 with e1 e3
            rw [← e1, HE.out] at e2
            exact absurd e2 hz
          · exact h)
        clear hz
        go_upto_region 37 with fail
        refine wp_region_noPanic ?_
        refine wp_region_held_drew (S := fun _ => True) (by kernel_rfl) trivial (fun hHeld => ?_)
        refine wpAnyH_take (i := 0) (v := ?v0) rfl (by kernel_rfl) (by kernel_rfl) (by kernel_rfl) (fun _ _ _ h => h) (Or.inl ⟨by rfl, ?hy0⟩) trivial ?rest0
        case hy0 => (intro w hSw; (try dsimp only at hSw); go_simp; (try with_reducible rfl))
        case rest0 =>
        try simp only [Act.put, List.setIfInBounds_toArray, List.set_cons_zero, List.set_cons_succ, List.getElem_toArray, List.getElem_cons_succ, List.getElem_cons_zero]
        refine wpAnyH_take (i := 1) (v := ?v1) rfl (by kernel_rfl) (by kernel_rfl) (by kernel_rfl) (fun _ _ _ h => h) (Or.inl ⟨by rfl, ?hy1⟩) trivial ?rest1
        case hy1 => (intro w hSw; (try dsimp only at hSw); go_simp; (try with_reducible rfl))
        case rest1 =>
        try simp only [Act.put, List.setIfInBounds_toArray, List.set_cons_zero, List.set_cons_succ, List.getElem_toArray, List.getElem_cons_succ, List.getElem_cons_zero]
        refine wpAnyH_take (i := 2) (v := ?v2) rfl (by kernel_rfl) (by kernel_rfl) (by kernel_rfl) (fun _ _ _ h => h) (Or.inl ⟨by rfl, ?hy2⟩) trivial ?rest2
        case hy2 => (intro w hSw; (try dsimp only at hSw); go_simp; (try with_reducible rfl))
        case rest2 =>
        try simp only [Act.put, List.setIfInBounds_toArray, List.set_cons_zero, List.set_cons_succ, List.getElem_toArray, List.getElem_cons_succ, List.getElem_cons_zero]
        refine wpAnyH_take (i := 3) (v := ?v3) rfl (by kernel_rfl) (by kernel_rfl) (by kernel_rfl) (fun _ _ _ h => h) (Or.inl ⟨by rfl, ?hy3⟩) trivial ?rest3
        case hy3 => (intro w hSw; (try dsimp only at hSw); go_simp; (try with_reducible rfl))
        case rest3 =>
        try simp only [Act.put, List.setIfInBounds_toArray, List.set_cons_zero, List.set_cons_succ, List.getElem_toArray, List.getElem_cons_succ, List.getElem_cons_zero]
        refine wpAnyH_take (i := 4) (v := ?v4) rfl (by kernel_rfl) (by kernel_rfl) (by kernel_rfl) (fun _ _ _ h => h) (Or.inl ⟨by rfl, ?hy4⟩) trivial ?rest4
        case hy4 => (intro w hSw; (try dsimp only at hSw); go_simp; (try with_reducible rfl))
        case rest4 =>
        try simp only [Act.put, List.setIfInBounds_toArray, List.set_cons_zero, List.set_cons_succ, List.getElem_toArray, List.getElem_cons_succ, List.getElem_cons_zero]
        refine wpAnyH_take (i := 5) (v := ?v5) rfl (by kernel_rfl) (by kernel_rfl) (by kernel_rfl) (fun _ _ _ h => h) (Or.inl ⟨by rfl, ?hy5⟩) trivial ?rest5
        case hy5 => (intro w hSw; (try dsimp only at hSw); go_simp; (try with_reducible rfl))
        case rest5 =>
        try simp only [Act.put, List.setIfInBounds_toArray, List.set_cons_zero, List.set_cons_succ, List.getElem_toArray, List.getElem_cons_succ, List.getElem_cons_zero]
        refine wpAnyH_ready (rs := [6]) (by kernel_rfl) (by simp) ?_
        refine AllReadyH.cons rfl (fun K hK => ?_) ?_
        · go_simp
          refine (HMF.out wB.drew HBD.out).mono ?_
          rintro e w2 ⟨rfl, hb2⟩
          have HB2 := Lib.hid hb2
          clear hb2
          refine hK.out _ _ trivial (fun hHeld2 => ?_)
          clear hK K
          try simp only [Act.put, List.setIfInBounds_toArray, List.set_cons_zero, List.set_cons_succ, List.getElem_toArray, List.getElem_cons_succ, List.getElem_cons_zero]
          refine wpAnyH_take (i := 7) (v := ?v7) rfl (by kernel_rfl) (by kernel_rfl) (by kernel_rfl) (fun _ _ _ h => h) (Or.inl ⟨by rfl, ?hy7⟩) trivial ?rest7
          case hy7 => (intro w hSw; (try dsimp only at hSw); go_simp; (try with_reducible rfl))
          case rest7 =>
          try simp only [Act.put, List.setIfInBounds_toArray, List.set_cons_zero, List.set_cons_succ, List.getElem_toArray, List.getElem_cons_succ, List.getElem_cons_zero]
          refine wpAnyH_take (i := 8) (v := ?v8) rfl (by kernel_rfl) (by kernel_rfl) (by kernel_rfl) (fun _ _ _ h => h) (Or.inl ⟨by rfl, ?hy8⟩) trivial ?rest8
          case hy8 => (intro w hSw; (try dsimp only at hSw); go_simp; (try with_reducible rfl))
          case rest8 =>
          try simp only [Act.put, List.setIfInBounds_toArray, List.set_cons_zero, List.set_cons_succ, List.getElem_toArray, List.getElem_cons_succ, List.getElem_cons_zero]
          refine wpAnyH_take (i := 9) (v := ?v9) rfl (by kernel_rfl) (by kernel_rfl) (by kernel_rfl) (fun _ _ _ h => h) (Or.inl ⟨by rfl, ?hy9⟩) trivial ?rest9
          case hy9 => (intro w hSw; (try dsimp only at hSw); go_simp; (try with_reducible rfl))
          case rest9 =>
          try simp only [Act.put, List.setIfInBounds_toArray, List.set_cons_zero, List.set_cons_succ, List.getElem_toArray, List.getElem_cons_succ, List.getElem_cons_zero]
          refine wpAnyH_take (i := 10) (v := undef) rfl (by kernel_rfl) (by kernel_rfl) (by kernel_rfl) (fun _ _ _ h => h) (Or.inr ⟨by rfl, rfl⟩) trivial ?_
          try simp only [Act.put, List.setIfInBounds_toArray, List.set_cons_zero, List.set_cons_succ, List.getElem_toArray, List.getElem_cons_succ, List.getElem_cons_zero]
          refine wpAnyH_take (i := 11) (v := undef) rfl (by kernel_rfl) (by kernel_rfl) (by kernel_rfl) (fun _ _ _ h => h) (Or.inr ⟨by rfl, rfl⟩) trivial ?_
          try simp only [Act.put, List.setIfInBounds_toArray, List.set_cons_zero, List.set_cons_succ, List.getElem_toArray, List.getElem_cons_succ, List.getElem_cons_zero]
          refine wpAnyH_take (i := 12) (v := undef) rfl (by kernel_rfl) (by kernel_rfl) (by kernel_rfl) (fun _ _ _ h => h) (Or.inr ⟨by rfl, rfl⟩) trivial ?_
          try simp only [Act.put, List.setIfInBounds_toArray, List.set_cons_zero, List.set_cons_succ, List.getElem_toArray, List.getElem_cons_succ, List.getElem_cons_zero]
          refine wpAnyH_take (i := 13) (v := undef) rfl (by kernel_rfl) (by kernel_rfl) (by kernel_rfl) (fun _ _ _ h => h) (Or.inr ⟨by rfl, rfl⟩) trivial ?_
          try simp only [Act.put, List.setIfInBounds_toArray, List.set_cons_zero, List.set_cons_succ, List.getElem_toArray, List.getElem_cons_succ, List.getElem_cons_zero]
          refine wpAnyH_take (i := 14) (v := undef) rfl (by kernel_rfl) (by kernel_rfl) (by kernel_rfl) (fun _ _ _ h => h) (Or.inr ⟨by rfl, rfl⟩) trivial ?_
          try simp only [Act.put, List.setIfInBounds_toArray, List.set_cons_zero, List.set_cons_succ, List.getElem_toArray, List.getElem_cons_succ, List.getElem_cons_zero]
          refine wpAnyH_take (i := 15) (v := undef) rfl (by kernel_rfl) (by kernel_rfl) (by kernel_rfl) (fun _ _ _ h => h) (Or.inr ⟨by rfl, rfl⟩) trivial ?_
          try simp only [Act.put, List.setIfInBounds_toArray, List.set_cons_zero, List.set_cons_succ, List.getElem_toArray, List.getElem_cons_succ, List.getElem_cons_zero]
          refine wpAnyH_take (i := 16) (v := undef) rfl (by kernel_rfl) (by kernel_rfl) (by kernel_rfl) (fun _ _ _ h => h) (Or.inr ⟨by rfl, rfl⟩) trivial ?_
          try simp only [Act.put, List.setIfInBounds_toArray, List.set_cons_zero, List.set_cons_succ, List.getElem_toArray, List.getElem_cons_succ, List.getElem_cons_zero]
          refine wpAnyH_take (i := 17) (v := ?v17) rfl (by kernel_rfl) (by kernel_rfl) (by kernel_rfl) (fun _ _ _ h => h) (Or.inl ⟨by rfl, ?hy17⟩) trivial ?rest17
          case hy17 => (intro w hSw; (try dsimp only at hSw); go_simp; (try with_reducible rfl))
          case rest17 =>
          try simp only [Act.put, List.setIfInBounds_toArray, List.set_cons_zero, List.set_cons_succ, List.getElem_toArray, List.getElem_cons_succ, List.getElem_cons_zero]
          refine wpAnyH_done (by kernel_rfl) ?_ _
          refine NoPanic.normal ?_
          have HB3 := Lib.hid (hbel.trans ((HBD.out.trans (HB2.out.mono HBD.out.size)).mono hbel.size))
          go_wp2_with fail
          go_ret3
          exact maP_none HN.out HB3.out rfl
        · exact AllReadyH.nil
      subst hz
      have HMT := Lib.hid (fun W (hb : Below wB.heap.size wB W) => mtext_any (.slice uo q uc) O W (HO.out.sp.below mtR_mono hb) HE.out)
      obtain ⟨X, hX⟩ : ∃ X, mkS (textM O) = X := ⟨_, rfl⟩
      rw [hX] at HMT
      obtain ⟨Y, hY⟩ : ∃ Y, mkS (l.take (i + 1)) = Y := ⟨_, rfl⟩
      have hexY : S.extract 0 (i + 1) = Y := by rw [HX.out, Nat.sub_zero, List.drop_zero, hY]
      obtain ⟨D, hD⟩ : ∃ Y, mkS (l.drop (i + 1)) = Y := ⟨_, rfl⟩
      have hexD : S.extract (i + 1) n = D := by rw [← HL.out, HX.out, List.take_of_length_le (by rw [List.length_drop]; exact Nat.le_refl _), hD]
      have hxy : (X.toList == Y.toList) = decide (textM O = l.take (i + 1)) := by
        rw [← hX, ← hY, mkS_list, mkS_list, Bool.eq_iff_iff]
        simp
      have HDD := Lib.hid hD
      clear hX hY hD
      by_cases hts : textM O = l.take (i + 1)
      · rw [decide_eq_true hts] at hxy
        have HN : Hid (R = some (O, l.drop (i + 1))) := Lib.hid (by
          rcases HRZ.out with ⟨ms, z, e1, e2, e3, e4⟩ | ⟨h, -⟩
          · injection e1 with e1
            rw [e1]; exact e4
          · exact absurd ⟨HE.out, by rw [hts]; exact List.take_append_drop _ _⟩ (h O _ rfl))
        clear hts
        go_upto_region 37 with fail
        go_region_held3 (fun _ => True) (exact trivial) (first
          | (go_at_call 27; refine (HMF.out wB.drew HBD.out).mono ?_; rintro e w2 ⟨rfl, hb2⟩; have HB2 := Lib.hid (HBD.out.trans (hb2.mono HBD.out.size)); clear hb2)
          | (go_at_call 28; refine (HMT.out w2 HB2.out).mono ?_; rintro e w3 ⟨rfl, hb3⟩; have HB3 := Lib.hid (HB2.out.trans (hb3.mono HB2.out.size)); clear hb3))
        all_goals
          go_wp2_with fail
          go_quiet (fail)
          go_wp2_with fail
          go_ret3
          refine maP_some HN.out (hbel.trans ((below_drewN HB3.out _).mono hbel.size)) (by rw [HDD.out]; rfl) (HO.out.below mtR_mono (below_drewN HB3.out _))
      · rw [decide_eq_false hts] at hxy
        have HN : Hid (R = none) := Lib.hid (by
          rcases HRZ.out with ⟨ms, z, e1, e2, e3, e4⟩ | ⟨-, h⟩
          · injection e1 with e1
            injection e1 with e1 e5
            have e6 : textM O ++ l.drop (i + 1) = l := by rw [e1, e5]; exact e3
            have e7 : textM O ++ l.drop (i + 1) = l.take (i + 1) ++ l.drop (i + 1) := by rw [e6, List.take_append_drop]
            exact absurd (List.append_cancel_right e7) hts
          · exact h)
        clear hts
        go_upto_region 37 with fail
        go_region_held3 (fun _ => True) (exact trivial) (first
          | (go_at_call 27; refine (HMF.out wB.drew HBD.out).mono ?_; rintro e w2 ⟨rfl, hb2⟩; have HB2 := Lib.hid (HBD.out.trans (hb2.mono HBD.out.size)); clear hb2)
          | (go_at_call 28; refine (HMT.out w2 HB2.out).mono ?_; rintro e w3 ⟨rfl, hb3⟩; have HB3 := Lib.hid (HB2.out.trans (hb3.mono HB2.out.size)); clear hb3))
        all_goals
          go_wp2_with fail
          go_ret3
          exact maP_none HN.out (hbel.trans (HB3.out.mono hbel.size)) rfl
    have hd125 : d ≠ 125 := fun e => g1 (by rw [e125]; exact e)
    have hqi : (0 : Int) < (q : Int) ∨ q = 0 := by omega
    have HQI := Lib.hid hqi
    have H44 := Lib.hid e44
    have HDR := Lib.hid hdr
    have HD125 := Lib.hid hd125
    clear e125 e44 hdr hd125 hqi hd hm hlk
    go_upto_if 29 with (fail)
    go_cut [6] (fun x wx => ∃ j : Nat, j ≤ n ∧ i ≤ j ∧ x = .int .i64 j ∧ Hid (OneTo t (l.drop j) O) ∧ wx = wB)
    case first =>
      rcases HQI.out with hq1 | rfl
      · have hO : O ≠ [] := fun e => by have := HQ.out; rw [e] at this; simp at this; omega
        have HO1 := Lib.hid hO
        clear hO
        by_cases g2 : m = 44
        · have HOT : Hid (OneTo t (l.drop (i + 1)) O) := Lib.hid (by
            have h44 : d = 44 := by rw [← H44.out]; exact g2
            constructor
            · intro h
              exact HC.out _ (by rw [HDR.out]; exact RrR.bad d _ _ O HD125.out (Or.inr ⟨HO1.out, h44, rfl⟩) h)
            · intro mm b h res hr
              exact HC.out _ (by rw [HDR.out]; exact RrR.more d _ _ O mm b res HD125.out (Or.inr ⟨HO1.out, h44, rfl⟩) h hr))
          go_wp2_with fail
          go_meet
          case rel => exact ⟨i + 1, by omega, by omega, by go_num, HOT, rfl⟩
        · have HN : Hid (R = none) := Lib.hid (by
            have h := HC.out none (by rw [HDR.out]; exact RrR.comma d _ O HD125.out HO1.out (fun e => g2 (by rw [H44.out]; exact e)))
            rcases ma_ref HTT.out h with ⟨ms, z, e1, -⟩ | ⟨-, e⟩
            · simp at e1
            · rw [← HR.out]; exact e)
          go_wp2_with fail
          go_ret3
          exact maP_none HN.out hbel rfl
      · have hO : O = [] := List.length_eq_zero_iff.1 HQ.out
        have HOT : Hid (OneTo t (l.drop i) O) := Lib.hid (by
          constructor
          · intro h
            exact HC.out _ (by rw [HDR.out] at h ⊢; exact RrR.bad d _ _ O HD125.out (Or.inl ⟨hO, rfl⟩) h)
          · intro mm b h res hr
            exact HC.out _ (by rw [HDR.out] at h ⊢; exact RrR.more d _ _ O mm b res HD125.out (Or.inl ⟨hO, rfl⟩) h hr))
        clear hO
        go_wp2_with fail
        go_meet
        case rel => exact ⟨i, by omega, by omega, rfl, HOT, rfl⟩
    case rest =>
      obtain ⟨j, hjn, hij, rfl, HOT, hwc⟩ := hcut
      have hwc := hwc.symm
      subst hwc
      clear hgk hks g1
      go_upto_block 2 with fail
      obtain ⟨wA, hwA⟩ : ∃ wA, wA = wB.alloc (Obj.cells #[.int .i64 0, .string ⟨#[]⟩, .string ⟨#[]⟩] 70) := ⟨_, rfl⟩
      have hbxA : MBx wB wA wB.heap.size 0 ⟨#[]⟩ ⟨#[]⟩ := ⟨by rw [hwA]; exact heap_alloc_new wB _, by rw [hwA]; exact (Below.refl _ _).alloc (Nat.le_refl _) _⟩
      rw [← hwA]
      obtain ⟨G, hG⟩ : ∃ G, G = wB.heap.size := ⟨_, rfl⟩
      rw [← hG] at hbxA ⊢
      have HBA := Lib.hid hbxA
      have HGG := Lib.hid (Nat.le_of_eq hG.symm)
      clear hwA hbxA hG
      go_cut [6] (fun x wx => ∃ (k : Nat) (a : ByteArray), k ≤ n ∧ x = .int .i64 k ∧ Hid (NmEnd l j k a) ∧ Hid (MBx wB wx G 0 a ⟨#[]⟩))
      case first =>
        go_wp2_with fail
        go_loopw [6] (fun x wx => ∃ (k : Nat) (a : ByteArray), k ≤ n ∧ x = .int .i64 k ∧ Hid (NmAt l j k a) ∧ Hid (MBx wB wx G 0 a ⟨#[]⟩)) (fun x _ => n - (intOf x).toNat)
        case atStart => exact ⟨j, ⟨#[]⟩, hjn, rfl, Lib.hid ⟨[], rfl, Nat.zero_le _, rfl, rfl⟩, HBA⟩
        case round =>
          obtain ⟨k, a, hkn, rfl, HNA, HMB⟩ := hrel
          obtain ⟨⟨d0, d1, d2⟩, ⟨f0, f1, f2⟩⟩ := bx3 HMB.out.box
          by_cases hkl : k < n
          case neg =>
            obtain rfl : k = n := by omega
            have HNE : Hid (NmEnd l j k a) := Lib.hid (HNA.out.stop (fun d hd => by rw [List.getElem?_eq_none (by rw [HL.out]; exact Nat.le_refl _)] at hd; simp at hd))
            go_wp2_with fail
            go_meet
            case rel => exact ⟨k, a, Nat.le_refl _, rfl, HNE, HMB⟩
          have hks : k < S.size := by rw [hn]; exact hkl
          have hlk : k < l.length := by rw [HL.out]; exact hkl
          obtain ⟨c, hc⟩ : ∃ d, l[k]? = some d := ⟨_, List.getElem?_eq_getElem hlk⟩
          obtain ⟨z, hz⟩ : ∃ m, c.toNat = m := ⟨_, rfl⟩
          have hgz : (S[k]'hks).toNat = z := by
            rw [HG.out k hks hlk, (List.getElem?_eq_some_iff.1 hc).2]
            exact hz
          have hob := opB_nat c
          rw [hz] at hob
          have HC1 := Lib.hid hc
          have HOB := Lib.hid hob
          have hpie : S.extract k (k + 1) = mkS [c] := by rw [← HS.out]; exact one_byte hc
          obtain ⟨PC, hPC⟩ : ∃ z, mkS [c] = z := ⟨_, rfl⟩
          have hps : PC.size = 1 := by rw [← hPC]; exact mkS_size _
          rw [hPC] at hpie
          have HPC := Lib.hid hPC
          have hasz := HNA.out.size
          clear hc hz hob hlk hPC
          by_cases g3 : z = 61
          · have HNE : Hid (NmEnd l j k a) := Lib.hid (HNA.out.stop (fun d hd => by rw [HC1.out] at hd; injection hd with hd; subst hd; rw [HOB.out]; exact decide_eq_true (Or.inr g3)))
            go_wp2_with fail
            go_meet
            case rel => exact ⟨k, a, by omega, rfl, HNE, HMB⟩
          by_cases g4 : z = 33
          · have HNE : Hid (NmEnd l j k a) := Lib.hid (HNA.out.stop (fun d hd => by rw [HC1.out] at hd; injection hd with hd; subst hd; rw [HOB.out]; exact decide_eq_true (Or.inl g4)))
            go_wp2_with fail
            go_meet
            case rel => exact ⟨k, a, by omega, rfl, HNE, HMB⟩
          have HNX : Hid (NmAt l j (k + 1) (a ++ PC)) := Lib.hid (by rw [← HPC.out]; exact HNA.out.next HC1.out (by rw [HOB.out]; exact decide_eq_false (by omega)))
          have HMX := Lib.hid ((HMB.out.set1 HGG.out (a ++ PC)).drew1)
          have hb61 : ((z : Int) != 61) = true := by rw [bne_iff_ne]; omega
          have hb33 : ((z : Int) != 33) = true := by rw [bne_iff_ne]; omega
          have hwk : IntKind.i64.wrap ((k : Int) + 1) = (k : Int) + 1 := IntWalk.i64_in _ (by omega)
          have hk1t : ((k : Int) + 1).toNat = k + 1 := by omega
          have hkn1 : (k : Int) + 1 ≤ (n : Int) := by omega
          have hk0 : (k : Int) ≤ (k : Int) + 1 := by omega
          have hsum : (9223372036854775807 < a.size + 1) = False := eq_false (by omega)
          go_wp2_with fail
          refine wp_region_noPanic ?_
          go_region
          refine NoPanic.normal ?_
          go_wp2_with fail
          refine ⟨⟨k + 1, _, by omega, by go_num, HNX, HMX⟩, ?_⟩
          simp [intOf]
          omega
      case rest =>
        obtain ⟨k, a, hkn, rfl, HNE, HMB⟩ := hcut
        go_upto_block 4 with fail
        obtain ⟨W4, hW4⟩ : ∃ W4, W4 = wc.alloc (Obj.cells #[.string ⟨#[]⟩, .string ⟨#[61, 34]⟩, .string ⟨#[33, 61, 34]⟩, .string ⟨#[61, 94, 34]⟩, .string ⟨#[61, 126, 34]⟩] 9) := ⟨_, rfl⟩
        obtain ⟨N, hN⟩ : ∃ N, N = wc.heap.size := ⟨_, rfl⟩
        have htab : ∀ q : Nat, q < 5 → W4.cell? ⟨N, q, none⟩ = some (.string (mkS (TS q))) := fun q hq => by rw [hW4, hN]; exact ts_cell hq
        have hlc : G < wc.heap.size := (Array.getElem?_eq_some_iff.1 HMB.out.box).1
        have hb4 : Below wc.heap.size wc W4 := by rw [hW4]; exact (Below.refl _ _).alloc (Nat.le_refl _) _
        have hm4 : MBx wB W4 G 0 a ⟨#[]⟩ := ⟨(hb4.block G hlc).trans HMB.out.box, HMB.out.bel.trans (hb4.mono HMB.out.bel.size)⟩
        rw [← hW4, ← hN]
        have HTAB := Lib.hid htab
        have HM4 := Lib.hid hm4
        clear hW4 hN htab hlc hb4 hm4
        go_cut [6] (fun x wx => ∃ (j4 : Nat) (κ : Int), j4 ≤ n ∧ x = .int .i64 j4 ∧ Hid (SgEnd l k j4 κ) ∧ Hid (MBx wB wx G κ a ⟨#[]⟩))
        case first =>
          have HXK : Hid (S.extract k n = mkS (l.drop k)) := Lib.hid (by rw [← HL.out, HX.out, List.take_of_length_le (by rw [List.length_drop]; exact Nat.le_refl _)])
          go_wp2_with fail
          go_loopw [6, 65] (fun x y wx => ∃ q : Nat, q ≤ 5 ∧ y = .int .i64 q ∧ x = .int .i64 k ∧ wx = W4 ∧ Hid (∀ r : Nat, 1 ≤ r → r < q → (sgn (r : Int) ++ [34]).isPrefixOf (l.drop k) = false)) (fun _ y _ => 5 - (intOf y).toNat)
          case atStart => exact ⟨0, by omega, rfl, rfl, rfl, Lib.hid (fun r h1 h2 => by omega)⟩
          case round =>
            obtain ⟨r, hr5, rfl, rfl, hwe, HNP⟩ := hrel
            have hwe := hwe.symm
            subst hwe
            obtain ⟨⟨d0, d1, d2⟩, ⟨f0, f1, f2⟩⟩ := bx3 HM4.out.box
            by_cases hr : r < 5
            case neg =>
              obtain rfl : r = 5 := by omega
              have HSE : Hid (SgEnd l k k 0) := Lib.hid (Or.inl ⟨rfl, sgn_nil _ (fun q h1 h2 => HNP.out q h1 (by omega))⟩)
              go_wp2_with fail
              go_meet
              case rel => exact ⟨k, 0, by omega, rfl, HSE, HM4⟩
            have htc := HTAB.out r hr
            have htl := ts_len r
            obtain ⟨T, hT⟩ : ∃ z, mkS (TS r) = z := ⟨_, rfl⟩
            have hTs : T.size ≤ 3 := by rw [← hT, mkS_size]; exact htl
            rw [hT] at htc
            rcases Nat.eq_zero_or_pos r with h0 | hpos
            · subst h0
              have HN2 : Hid (∀ q : Nat, 1 ≤ q → q < 0 + 1 → (sgn (q : Int) ++ [34]).isPrefixOf (l.drop k) = false) := Lib.hid (fun q h1 h2 => by omega)
              clear hT htl
              go_wp2_with fail
              go_roundw
              case rel => exact ⟨1, by omega, by rfl, rfl, by trivial, HN2⟩
              case measure => simp [intOf]
            have hpi : (0 : Int) < (r : Int) := by omega
            have hbg := fun W => begins_any (l.drop k) (TS r) W
            rw [hT, ← HXK.out] at hbg
            have hts : TS r = sgn (r : Int) ++ [34] := by unfold TS; rw [if_neg (by omega)]
            obtain ⟨C, hC⟩ : ∃ C, (TS r).isPrefixOf (l.drop k) = C := ⟨_, rfl⟩
            rw [hC] at hbg
            have HBG := Lib.hid hbg
            have hki : (k : Int) ≤ (n : Int) := by omega
            obtain ⟨X, hX⟩ : ∃ z, S.extract k n = z := ⟨_, rfl⟩
            rw [hX] at HBG
            have HTS := Lib.hid hts
            have HCC := Lib.hid hC
            have HTT2 := Lib.hid hT
            clear hbg hts hC hT htl
            cases C with
            | false =>
              have HN2 : Hid (∀ q : Nat, 1 ≤ q → q < r + 1 → (sgn (q : Int) ++ [34]).isPrefixOf (l.drop k) = false) := Lib.hid (fun q h1 h2 => by
                rcases Nat.lt_or_ge q r with h | h
                · exact HNP.out q h1 h
                · obtain rfl : q = r := by omega
                  rw [← HTS.out]
                  exact HCC.out)
              go_wp2_with (go_at_call 60; refine (HBG.out _).mono ?_; rintro e w3 ⟨rfl, rfl⟩)
              go_roundw
              case rel => exact ⟨r + 1, by omega, by go_num, rfl, by trivial, HN2⟩
              case measure => simp [intOf]; omega
            | true =>
              obtain ⟨tn, htn⟩ : ∃ z, T.size = z := ⟨_, rfl⟩
              have htl : (TS r).length = tn := by rw [← htn, ← HTT2.out, mkS_size]
              have hdp : l.drop k = TS r ++ l.drop (k + tn) ∧ k + tn ≤ n := by
                rcases drop_pre HCC.out with h | h
                · rw [htl, HL.out] at h
                  exact h
                · rw [HTS.out] at h
                  simp at h
              have HSE : Hid (SgEnd l k (k + tn) r) := Lib.hid (Or.inr ⟨by omega, by omega, by
                have h := hdp.1
                rw [HTS.out, List.append_assoc] at h
                exact h⟩)
              have hle := hdp.2
              have HMZ := Lib.hid (HM4.out.set0 HGG.out r)
              rw [htn] at hTs
              clear htl hdp
              go_wp2_with (go_at_call 60; refine (HBG.out _).mono ?_; rintro e w3 ⟨rfl, rfl⟩)
              go_meet
              case rel => exact ⟨k + tn, r, by omega, by go_num, HSE, HMZ⟩
        case rest =>
          obtain ⟨j4, κ, hj4, rfl, HSE, HM5⟩ := hcut
          obtain ⟨⟨d0, d1, d2⟩, ⟨f0, f1, f2⟩⟩ := bx3 HM5.out.box
          by_cases hκ : κ = 0
          · subst hκ
            have HN : Hid (R = none) := Lib.hid (by
              have hsn : sgnAt (l.drop k) = none := by
                rcases HSE.out with ⟨_, h⟩ | ⟨h, _⟩
                · exact h
                · omega
              rcases ma_ref HTT.out (HOT.out.1 (one_nosign HNE.out hsn)) with ⟨ms, z, e1, -⟩ | ⟨-, e⟩
              · simp at e1
              · rw [← HR.out]; exact e)
            go_wp2_with fail
            go_ret3
            exact maP_none HN.out (hbel.trans (HM5.out.bel.mono hbel.size)) rfl
          have HSG : Hid (1 ≤ κ ∧ κ ≤ 4 ∧ l.drop k = sgn κ ++ 34 :: l.drop j4) := Lib.hid (by
            rcases HSE.out with ⟨h, _⟩ | h
            · exact absurd h hκ
            · exact h)
          have hbk : (κ == 0) = false := beq_eq_false_iff_ne.2 hκ
          have HFN := Lib.hid (one_fin HNE.out HSG.out.1 HSG.out.2.1 HSG.out.2.2)
          obtain ⟨U, hU⟩ : ∃ U, unq (l.drop j4) [] = U := ⟨_, rfl⟩
          have HU := Lib.hid hU
          clear hκ hU
          go_upto_block 6 with fail
          clear d0 d1 d2 f0 f1 f2
          go_cut [6] (fun x wx => ∃ (j5 : Nat) (acc : By), j5 ≤ n ∧ j4 ≤ j5 ∧ x = .int .i64 j5 ∧ Hid (unq (l.drop j5) acc = U) ∧ Hid (∀ d, l[j5]? = some d → d = 34) ∧ Hid (MBx wB wx G κ a (mkS acc)))
          case first =>
            go_wp2_with fail
            go_loopw [6] (fun x wx => ∃ (j5 : Nat) (acc : By) (V : ByteArray), j5 ≤ n ∧ j4 ≤ j5 ∧ x = .int .i64 j5 ∧ V.size ≤ j5 ∧ Hid (unq (l.drop j5) acc = U) ∧ Hid (mkS acc = V) ∧ Hid (MBx wB wx G κ a V)) (fun x _ => n - (intOf x).toNat)
            case atStart => exact ⟨j4, [], ⟨#[]⟩, hj4, Nat.le_refl _, rfl, Nat.zero_le _, HU, Lib.hid rfl, HM5⟩
            case round =>
              obtain ⟨j5, acc, V, hj5, hj45, rfl, hV, HUN, HV, HMV⟩ := hrel
              obtain ⟨⟨d0, d1, d2⟩, ⟨f0, f1, f2⟩⟩ := bx3 HMV.out.box
              by_cases hlt5 : j5 < n
              case neg =>
                obtain rfl : j5 = n := by omega
                have HE5 : Hid (∀ d, l[j5]? = some d → d = 34) := Lib.hid (fun d hd => by rw [List.getElem?_eq_none (by rw [HL.out]; exact Nat.le_refl _)] at hd; simp at hd)
                have HMV2 : Hid (MBx wB wr G κ a (mkS acc)) := Lib.hid (by rw [HV.out]; exact HMV.out)
                go_wp2_with fail
                go_meet
                case rel => exact ⟨j5, acc, Nat.le_refl _, hj45, rfl, HUN, HE5, HMV2⟩
              have hks : j5 < S.size := by rw [hn]; exact hlt5
              have hlk : j5 < l.length := by rw [HL.out]; exact hlt5
              obtain ⟨c, hc⟩ : ∃ d, l[j5]? = some d := ⟨_, List.getElem?_eq_getElem hlk⟩
              obtain ⟨z, hz⟩ : ∃ m, c.toNat = m := ⟨_, rfl⟩
              have hgz : (S[j5]'hks).toNat = z := by
                rw [HG.out j5 hks hlk, (List.getElem?_eq_some_iff.1 hc).2]
                exact hz
              have e1 : (z = 34) = (c = 34) := by rw [← hz, eq_iff_iff]; exact toNat_eq c 34
              have e2 : (z = 92) = (c = 92) := by rw [← hz, eq_iff_iff]; exact toNat_eq c 92
              have hun := HUN.out
              rw [drop_s hc, unq_cons] at hun
              by_cases g3 : z = 34
              · have HE5 : Hid (∀ d, l[j5]? = some d → d = 34) := Lib.hid (fun d hd => by rw [hc] at hd; injection hd with hd; rw [← hd, ← e1]; exact g3)
                have HMV2 : Hid (MBx wB wr G κ a (mkS acc)) := Lib.hid (by rw [HV.out]; exact HMV.out)
                have hb34 : ((z : Int) != 34) = false := by rw [g3]; rfl
                clear e1 e2 hun hc hz hlk
                go_wp2_with fail
                go_meet
                case rel => exact ⟨j5, acc, hj5, hj45, rfl, HUN, HE5, HMV2⟩
              have hb34 : ((z : Int) != 34) = true := by rw [bne_iff_ne]; omega
              rw [if_neg (by rw [← e1]; exact g3)] at hun
              have hk1t : ((j5 : Int) + 1).toNat = j5 + 1 := by omega
              have hkn1 : (j5 : Int) + 1 ≤ (n : Int) := by omega
              have hk0 : (j5 : Int) ≤ (j5 : Int) + 1 := by omega
              have hwk : IntKind.i64.wrap ((j5 : Int) + 1) = (j5 : Int) + 1 := IntWalk.i64_in _ (by omega)
              have hsum : (9223372036854775807 < V.size + 1) = False := eq_false (by omega)
              have hsum' : V.size + 1 ≤ 9223372036854775807 := by omega
              by_cases g4 : z = 92
              case neg =>
                have hb92 : ((z : Int) == 92) = false := beq_eq_false_iff_ne.2 (by omega)
                rw [if_neg (by rw [← e2]; exact g4)] at hun
                obtain ⟨PC, hPC⟩ : ∃ z, mkS [c] = z := ⟨_, rfl⟩
                have hpie : S.extract j5 (j5 + 1) = PC := by rw [← HS.out, ← hPC]; exact one_byte hc
                have hps : PC.size = 1 := by rw [← hPC]; exact mkS_size _
                have HVN : Hid (mkS (acc ++ [c]) = V ++ PC) := Lib.hid (by rw [← mkS_app, HV.out, hPC])
                have HUX := Lib.hid hun
                have HMX := Lib.hid ((HMV.out.set2 HGG.out (V ++ PC)).drew1)
                have hvs : (V ++ PC).size ≤ j5 + 1 := by rw [ByteArray.size_append]; omega
                have HVS := Lib.hid hvs
                clear e1 e2 hun hc hz hlk hPC hvs g3 g4
                go_wp2_with fail
                refine wp_region_noPanic ?_
                go_region
                refine NoPanic.normal ?_
                go_wp2_with fail
                refine ⟨⟨j5 + 1, acc ++ [c], _, by omega, by omega, by go_num, HVS.out, HUX, HVN, HMX⟩, ?_⟩
                simp [intOf]
                omega
              subst g4
              have hb92 : (((92 : Nat) : Int) == 92) = true := rfl
              rw [if_pos (by rw [← e2])] at hun
              by_cases hlt6 : j5 + 1 < n
              case neg =>
                obtain rfl : j5 + 1 = n := by omega
                have HN : Hid (R = none) := Lib.hid (by
                  have hd0 : l.drop (j5 + 1) = [] := List.drop_of_length_le (by rw [HL.out]; exact Nat.le_refl _)
                  rw [hd0] at hun
                  have hf := HFN.out
                  rw [HU.out, ← hun] at hf
                  rcases ma_ref HTT.out (HOT.out.1 hf) with ⟨ms, z, e1, -⟩ | ⟨-, e⟩
                  · simp at e1
                  · rw [← HR.out]; exact e)
                have hq1 : ((j5 : Int) + 1 == (j5 : Int) + 1) = true := by simp
                have HBZ := Lib.hid (hbel.trans (HMV.out.bel.mono hbel.size))
                clear e1 e2 hun hc hz hlk
                go_wp2_with fail
                go_ret3
                exact maP_none HN.out HBZ.out rfl
              have hne6 : ((j5 : Int) + 1 == (n : Int)) = false := beq_eq_false_iff_ne.2 (by omega)
              have hks2 : j5 + 1 < S.size := by rw [hn]; exact hlt6
              have hlk2 : j5 + 1 < l.length := by rw [HL.out]; exact hlt6
              obtain ⟨c2, hc2⟩ : ∃ d, l[j5 + 1]? = some d := ⟨_, List.getElem?_eq_getElem hlk2⟩
              obtain ⟨y, hy⟩ : ∃ m, c2.toNat = m := ⟨_, rfl⟩
              have hgy : (S[j5 + 1]'hks2).toNat = y := by
                rw [HG.out (j5 + 1) hks2 hlk2, (List.getElem?_eq_some_iff.1 hc2).2]
                exact hy
              have e3 : (y = 110) = (c2 = 110) := by rw [← hy, eq_iff_iff]; exact toNat_eq c2 110
              rw [drop_s hc2] at hun
              have hun2 : unq (l.drop (j5 + 1 + 1)) (acc ++ [if c2 = 110 then 10 else c2]) = U := hun
              have hlt6i : (j5 : Int) + 1 < (n : Int) := by omega
              by_cases g5 : y = 110
              · have hb110 : ((y : Int) == 110) = true := by rw [g5]; rfl
                rw [if_pos (by rw [← e3]; exact g5)] at hun2
                have HUX := Lib.hid hun2
                have HVN : Hid (mkS (acc ++ [10]) = V ++ ⟨#[10]⟩) := Lib.hid (by rw [← mkS_app, HV.out]; rfl)
                have HMX := Lib.hid (HMV.out.set2 HGG.out (V ++ ⟨#[10]⟩))
                have HVS : Hid ((V ++ ⟨#[10]⟩ : ByteArray).size ≤ j5 + 1 + 1) := Lib.hid (by rw [ByteArray.size_append]; show V.size + 1 ≤ _; omega)
                clear e1 e2 e3 hun hun2 hc hz hlk hc2 hy hlk2 g5 g3
                go_wp2_with fail
                go_roundw
                case rel => exact ⟨j5 + 1 + 1, acc ++ [10], _, by omega, by omega, by go_num, HVS.out, HUX, HVN, HMX⟩
                case measure => simp [intOf]; omega
              · have hb110 : ((y : Int) == 110) = false := beq_eq_false_iff_ne.2 (by omega)
                rw [if_neg (by rw [← e3]; exact g5)] at hun2
                obtain ⟨PC, hPC⟩ : ∃ z, mkS [c2] = z := ⟨_, rfl⟩
                have hpie : S.extract (j5 + 1) (j5 + 1 + 1) = PC := by rw [← HS.out, ← hPC]; exact one_byte hc2
                have hps : PC.size = 1 := by rw [← hPC]; exact mkS_size _
                have HVN : Hid (mkS (acc ++ [c2]) = V ++ PC) := Lib.hid (by rw [← mkS_app, HV.out, hPC])
                have HUX := Lib.hid hun2
                have HMX := Lib.hid ((HMV.out.set2 HGG.out (V ++ PC)).drew1)
                have hvs : (V ++ PC).size ≤ j5 + 1 + 1 := by rw [ByteArray.size_append]; omega
                have HVS := Lib.hid hvs
                have hk2t : ((j5 : Int) + 1 + 1).toNat = j5 + 1 + 1 := by omega
                have hkn2 : (j5 : Int) + 1 + 1 ≤ (n : Int) := by omega
                have hk02 : (j5 : Int) + 1 ≤ (j5 : Int) + 1 + 1 := by omega
                have hwk2 : IntKind.i64.wrap ((j5 : Int) + 1 + 1) = (j5 : Int) + 1 + 1 := IntWalk.i64_in _ (by omega)
                clear e1 e2 e3 hun hun2 hc hz hlk hc2 hy hlk2 g5 g3 hPC hvs
                go_wp2_with fail
                refine wp_region_noPanic ?_
                go_region
                refine NoPanic.normal ?_
                go_wp2_with fail
                refine ⟨⟨j5 + 1 + 1, acc ++ [c2], _, by omega, by omega, by go_num, HVS.out, HUX, HVN, HMX⟩, ?_⟩
                simp [intOf]
                omega
          case rest =>
            obtain ⟨j5, acc, hj5, hj45, rfl, HUN, HE5, HM6⟩ := hcut
            by_cases hlt7 : j5 < n
            case neg =>
              obtain rfl : j5 = n := by omega
              have HN : Hid (R = none) := Lib.hid (by
                have hun := HUN.out
                rw [List.drop_of_length_le (by rw [HL.out]; exact Nat.le_refl _)] at hun
                have hf := HFN.out
                rw [HU.out, ← hun] at hf
                rcases ma_ref HTT.out (HOT.out.1 hf) with ⟨ms, z, e1, -⟩ | ⟨-, e⟩
                · simp at e1
                · rw [← HR.out]; exact e)
              have hself : ((j5 : Int) == (j5 : Int)) = true := by simp
              have HBZ := Lib.hid (hbel.trans (HM6.out.bel.mono hbel.size))
              go_wp2_with fail
              go_ret3
              exact maP_none HN.out HBZ.out rfl
            have hlk7 : j5 < l.length := by rw [HL.out]; exact hlt7
            obtain ⟨c, hc⟩ : ∃ d, l[j5]? = some d := ⟨_, List.getElem?_eq_getElem hlk7⟩
            have hc34 := HE5.out c hc
            have hone : oneP (l.drop j) = some (⟨κ, (l.drop j).takeWhile fun b => !opB b, acc⟩, l.drop (j5 + 1)) := by
              have hun := HUN.out
              rw [drop_s hc, unq_cons, if_pos hc34] at hun
              have hf := HFN.out
              rw [HU.out, ← hun] at hf
              exact hf
            obtain ⟨m9, hm9⟩ : ∃ m9 : Mt, (⟨κ, (l.drop j).takeWhile fun b => !opB b, acc⟩ : Mt) = m9 := ⟨_, rfl⟩
            rw [hm9] at hone
            have HC9 : Hid (∀ res, RrR (l.drop (j5 + 1)) (O ++ [m9]) res → RrR t [] res) := Lib.hid (HOT.out.2 m9 _ hone)
            obtain ⟨z1, z2, z3, z4⟩ := one_sizes hone (by rw [List.length_drop, HL.out]; omega)
            have hln := one_len hone
            rw [List.length_drop, List.length_drop, HL.out] at hln
            have HMR : Hid (MtR wB m9 [.int .i64 κ, .string a, .string (mkS acc)]) := Lib.hid (by
              refine ⟨?_, z1, z2, by omega, by omega⟩
              rw [← hm9, HNE.out.1])
            have hne7 : ((j5 : Int) == (n : Int)) = false := beq_eq_false_iff_ne.2 (by omega)
            have HQ2 : Hid ((O ++ [m9]).length = q + 1) := Lib.hid (by rw [List.length_append, HQ.out]; rfl)
            have hq9 : 3 * (q + 1) ≤ j5 + 1 := by omega
            obtain ⟨P, hP1, hP2, hP3, hP4⟩ := HO.out
            rw [HQ.out] at hP4
            have HPP := Lib.hid (And.intro hP1 (And.intro hP2 hP3))
            have hO4 : wc.ownsRow w.heap.size 70 3 (.slice uo q uc) q (pc P) := own_below hP4 HM6.out.bel
            have HBA := Lib.hid (hbel.trans (HM6.out.bel.mono hbel.size))
            obtain ⟨⟨d0, d1, d2⟩, -⟩ := bx3 HM6.out.box
            obtain ⟨V, hV⟩ : ∃ z, mkS acc = z := ⟨_, rfl⟩
            rw [hV] at d2 HMR
            clear hlk7 hc hc34 hone hm9 z1 z2 z3 z4 hP1 hP2 hP3 hP4 hV
            go_wp2_with (at_builtin; refine append1 [.int .i64 κ, .string a, .string V] elMt rfl _ _ rfl hO4 HBA.out HBA.out.size rfl rfl rfl (by intro x hx; simp at hx; rcases hx with rfl | rfl | rfl <;> rfl) ?c4 ?c5 ?_)
            case c4 => omega
            case c5 => omega
            intro v6 w6 hown6 hbel6 hgr6
            have HON3 : Hid (Ow MtR 3 70 w.heap.size w6 v6 (O ++ [m9])) := Lib.hid (Ow.snoc (w := wc) (mtR_grow _ _ _) HPP.out.1 HPP.out.2.1 (fun q hq => HPP.out.2.2 q hq) hO4 HQ.out.symm hgr6 hown6 rfl HMR.out)
            have HB6 := Lib.hid hbel6
            obtain ⟨vo, vc, rfl, -, -, -⟩ := own_shape hown6
            clear hO4 hown6 hgr6 hbel6 d0 d1 d2
            go_wp2_with fail
            go_roundg (n - j5)
            case measure => omega
            case rel => exact ⟨j5 + 1, q + 1, O ++ [m9], by omega, by omega, by go_num, HQ2, hq9, HON3, HC9, HB6.out⟩
end Go.Proofs.YtlfhcjhbnakamaaGreatDoor.Lab
/-
  Labels: the walk of LabelsOf.
-/
namespace Go.Proofs.YtlfhcjhbnakamaaGreatDoor.Lab
open Go.RowKit Go.Gh
set_option linter.unusedVariables false
set_option linter.unusedSimpArgs false
def LoP (w : World) (r : Option (List Lb)) (e : Ending) (w' : World) : Prop := Below w.heap.size w w' ∧ match r with
  | none => ∃ ao n c, e = .returned (.tuple #[.slice ao n c, .bool false])
  | some ls => ∃ ao n c, e = .returned (.tuple #[.slice ao n c, .bool true]) ∧ Ow LbR 2 72 w.heap.size w' (.slice ao n c) ls
theorem loP_none {w w' : World} {r : Option (List Lb)} {e : Ending} {ao : Option Addr} {n c : Nat} (hr : r = none) (hb : Below w.heap.size w w') (he : e = .returned (.tuple #[.slice ao n c, .bool false])) : LoP w r e w' := by
  subst hr
  exact ⟨hb, ao, n, c, he⟩
theorem loP_some {w w' : World} {r : Option (List Lb)} {e : Ending} {ao : Option Addr} {n c : Nat} {ls : List Lb} (hr : r = some ls) (hb : Below w.heap.size w w') (he : e = .returned (.tuple #[.slice ao n c, .bool true])) (ho : Ow LbR 2 72 w.heap.size w' (.slice ao n c) ls) : LoP w r e w' := by
  subst hr
  exact ⟨hb, ao, n, c, he, ho⟩
set_option maxHeartbeats 8000000 in
set_option maxRecDepth 100000 in
theorem lbof_any (l : By) (w : World) (hsz : l.length ≤ 1048576) : Calls Tryz.prog 12 #[.string (mkS l)] w (LoP w (lbF l)) := by
  have HMA := Lib.hid (mats_any l w hsz)
  obtain ⟨X, hX⟩ : ∃ R, maF l = R := ⟨_, rfl⟩
  rw [hX] at HMA
  have HX := Lib.hid hX
  obtain ⟨R, hR⟩ : ∃ R, lbF l = R := ⟨_, rfl⟩
  rw [hR]
  have HR := Lib.hid hR
  obtain ⟨S, hS⟩ : ∃ z, mkS l = z := ⟨_, rfl⟩
  rw [hS] at HMA ⊢
  clear hX hR hS hsz
  cases X with
  | none =>
    have HN : Hid (R = none) := Lib.hid (by rw [← HR.out]; exact lbF_none (rm_ma_none (fun ms h => by rw [HX.out] at h; simp at h)))
    go_enter Tryz.func12, Tryz.ntmps12
    go_wp2_with (go_at_call 29; refine HMA.out.mono ?_; rintro e w1 ⟨hb1, rfl⟩; have HB1 := Lib.hid hb1; clear hb1)
    go_ret2
    exact loP_none HN.out HB1.out rfl
  | some mz =>
    obtain ⟨ms, z⟩ := mz
    obtain ⟨n, hn⟩ : ∃ n, ms.length = n := ⟨_, rfl⟩
    have HNN := Lib.hid hn
    have hn10 : n ≤ 10 := by rw [← hn]; exact (matchF_zero (ma_spec HX.out).1).1
    have HMA2 : Hid (Calls Tryz.prog 29 #[.string S] w fun e w' => Below w.heap.size w w' ∧ ∃ ao c, e = .returned (.tuple #[.slice ao n c, .string (mkS z), .bool true]) ∧ Ow MtR 3 70 w.heap.size w' (.slice ao n c) ms) := Lib.hid (HMA.out.mono (fun e w' h => by
      obtain ⟨hb, v, he, ho⟩ := h
      obtain ⟨ao, c, rfl, -, -⟩ := ho.sp.shapeN HNN.out
      exact ⟨hb, ao, c, he, ho⟩))
    clear hn HMA
    by_cases hz : z = []
    case neg =>
      have HN : Hid (R = none) := Lib.hid (by rw [← HR.out]; exact lbF_none (rm_ma_none (fun ms h => by rw [HX.out] at h; injection h with h; injection h with _ h; exact hz h)))
      obtain ⟨f1, f2⟩ := tl_ne hz
      generalize mkS z = Z at *
      clear hz
      go_enter Tryz.func12, Tryz.ntmps12
      go_wp2_with (go_at_call 29; refine HMA2.out.mono ?_; rintro e w1 ⟨hb1, ao, c, rfl, ho⟩; have HB1 := Lib.hid hb1; clear hb1 ho)
      go_ret2
      exact loP_none HN.out HB1.out rfl
    subst hz
    have HRM := Lib.hid (rm_ma_some HX.out)
    have HLR := Lib.hid (lb_ref HRM.out)
    rw [HR.out] at HLR
    have ez : mkS ([] : By) = ⟨#[]⟩ := rfl
    rw [ez] at HMA2
    clear ez
    go_enter Tryz.func12, Tryz.ntmps12
    go_wp2_with (go_at_call 29; refine HMA2.out.mono ?_; rintro e w1 ⟨hb1, ao, c, rfl, ho⟩; have HB1 := Lib.hid hb1; have HO1 := Lib.hid ho.sp; clear hb1 ho)
    have hs1 := HB1.out.size
    go_loopw [7, 24] (fun u i wr => ∃ (k : Nat), k ≤ n ∧ i = .int .i64 k ∧ Hid (∀ m ∈ ms.take k, m.kd = 1) ∧ Hid (Ow LbR 2 72 w1.heap.size wr u (asL (ms.take k))) ∧ Below w1.heap.size w1 wr) (fun _ i _ => n - (intOf i).toNat)
    case atStart => exact ⟨0, Nat.zero_le _, rfl, Lib.hid (fun m hm => by simp at hm), Lib.hid Ow.nil, Below.refl _ _⟩
    case round =>
      obtain ⟨k, hk, rfl, HIS, HO, hbel⟩ := hrel
      have hsz := hbel.size
      have HPL : Hid ((asL (ms.take k)).length = k) := Lib.hid (by rw [asL_len, List.length_take, HNN.out]; omega)
      obtain ⟨uo, uc, rfl, hu1, hu2⟩ := Sp.shapeN HO.out.sp HPL.out
      by_cases hlt : k < n
      case neg =>
        obtain rfl : k = n := by omega
        have HO2 : Hid (Ow LbR 2 72 w1.heap.size wr (.slice uo k uc) (asL ms)) := Lib.hid (by have := HO.out; rwa [List.take_of_length_le (by rw [HNN.out]; exact Nat.le_refl _)] at this)
        have HAI : Hid (allIs ms) := Lib.hid (by have := HIS.out; rwa [List.take_of_length_le (by rw [HNN.out]; exact Nat.le_refl _)] at this)
        have hbw := HB1.out.trans (hbel.mono hs1)
        have HBW := Lib.hid hbw
        have HLF := Lib.hid (lbfault_any _ (asL ms) wr HO2.out.sp)
        obtain ⟨E, hE⟩ : ∃ E, labelF (asL ms) = E := ⟨_, rfl⟩
        rw [hE] at HLF HLR
        clear hE hbw hbel
        by_cases hz : E = 0
        · subst hz
          have HN : Hid (R = some (asL ms)) := Lib.hid (by rw [HLR.out, if_pos ⟨HAI.out, rfl⟩])
          go_wp2_with (go_at_call 9; refine HLF.out.mono ?_; rintro e w5 ⟨rfl, hb5⟩; have HB5 := Lib.hid hb5; clear hb5)
          go_ret2
          exact loP_some HN.out (HBW.out.trans (HB5.out.mono HBW.out.size)) rfl ((HO2.out.mono hs1).below lbR_mono HB5.out)
        · have HN : Hid (R = none) := Lib.hid (by rw [HLR.out, if_neg (fun h => hz h.2)])
          have t1 : (E == 0) = false := beq_eq_false_iff_ne.2 hz
          clear hz
          go_wp2_with (go_at_call 9; refine HLF.out.mono ?_; rintro e w5 ⟨rfl, hb5⟩; have HB5 := Lib.hid hb5; clear hb5)
          go_ret2
          exact loP_none HN.out (HBW.out.trans (HB5.out.mono HBW.out.size)) rfl
      obtain ⟨x, hx⟩ : ∃ x, ms[k]? = some x := ⟨_, List.getElem?_eq_getElem (by rw [HNN.out]; exact hlt)⟩
      obtain ⟨b, off, cs, rfl, ⟨rfl, hl1, hl2, hl3, hl4⟩, _, hck⟩ := (HO1.out.below mtR_mono hbel).get hx
      have HXK := Lib.hid hx
      have c0 := hck 0 _ rfl
      have c1 := hck 1 _ rfl
      have c2 := hck 2 _ rfl
      rw [Nat.add_zero] at c0
      obtain ⟨P, hP1, hP2, hP3, hP4⟩ := HO.out
      rw [HPL.out] at hP4
      have HPP := Lib.hid (And.intro hP1 (And.intro hP2 hP3))
      have HOW := Lib.hid hP4
      have HMR : Hid (LbR w ⟨x.nm, x.vl⟩ [.string (mkS x.nm), .string (mkS x.vl)]) := Lib.hid ⟨rfl, hl1, hl2⟩
      obtain ⟨κ, hκ⟩ : ∃ z, z = x.kd := ⟨_, rfl⟩
      obtain ⟨Sn, hSn⟩ : ∃ S, S = mkS x.nm := ⟨_, rfl⟩
      obtain ⟨V, hV⟩ : ∃ S, S = mkS x.vl := ⟨_, rfl⟩
      rw [← hSn, ← hV] at HMR
      rw [← hκ] at c0
      rw [← hSn] at c1
      rw [← hV] at c2
      have HK := Lib.hid hκ
      clear hck hx hP1 hP2 hP3 hP4 hSn hV hl1 hl2 hl3 hl4 hκ
      go_upto_region 8 with (fail)
      obtain ⟨wA, hwA⟩ : ∃ wA, wA = wr.alloc (Obj.cells #[.int .i64 κ, .string Sn, .string V] 70) := ⟨_, rfl⟩
      have hbox : wA.heap[wr.heap.size]? = some (.cells #[.int .i64 κ, .string Sn, .string V] 70 (0, 0)) := by rw [hwA]; exact heap_alloc_new wr _
      have hbA : Below wr.heap.size wr wA := by rw [hwA]; exact (Below.refl _ _).alloc (Nat.le_refl _) _
      rw [← hwA]
      have HBA := Lib.hid (hbel.trans (hbA.mono hsz))
      have hO4 : wA.ownsRow w1.heap.size 72 2 (.slice uo k uc) k (pc P) := own_below HOW.out hbA
      obtain ⟨⟨d0, d1, d2⟩, -⟩ := bx3 hbox
      generalize wr.heap.size = bx at *
      clear hwA hbox hbA c0 c1 c2
      by_cases hk1 : κ = 1
      case neg =>
        have HN : Hid (R = none) := Lib.hid (by
          rw [HLR.out, if_neg]
          rintro ⟨h, -⟩
          exact hk1 (by rw [HK.out]; exact h x (List.mem_of_getElem? HXK.out)))
        have t1 : (κ != 1) = true := by rw [bne_iff_ne]; exact hk1
        clear hk1 hO4
        go_wp2_with fail
        go_ret2
        exact loP_none HN.out (HB1.out.trans (HBA.out.mono hs1)) rfl
      have HIS2 : Hid (∀ m ∈ ms.take (k + 1), m.kd = 1) := Lib.hid (fun m hm => by
        rw [List.take_add_one, HXK.out] at hm
        rcases List.mem_append.1 hm with h | h
        · exact HIS.out m h
        · have : m = x := by simpa using h
          rw [this, ← HK.out]; exact hk1)
      subst hk1
      go_wp2_with (at_builtin; refine append1 [.string Sn, .string V] elLb rfl _ _ rfl hO4 HBA.out HBA.out.size rfl rfl rfl (by intro x hx; simp at hx; rcases hx with rfl | rfl <;> rfl) ?c4 ?c5 ?_)
      case c4 => omega
      case c5 => omega
      intro v5 w5 hown5 hbel5 hgr5
      have HON : Hid (Ow LbR 2 72 w1.heap.size w5 v5 (asL (ms.take (k + 1)))) := Lib.hid (by
        rw [asL_take HXK.out]
        exact Ow.snoc (w := wA) (lbR_grow _ _ _) HPP.out.1 HPP.out.2.1 (fun q hq => HPP.out.2.2 q hq) hO4 HPL.out.symm hgr5 hown5 rfl HMR.out)
      have HB5 := Lib.hid hbel5
      obtain ⟨vo, vc, rfl, -, -, -⟩ := own_shape hown5
      clear hO4 hown5 hgr5 hbel5 d0 d1 d2
      go_wp2_with fail
      go_roundw
      case rel => exact ⟨k + 1, by omega, by go_num, HIS2, HON, HB5.out⟩
      case measure => simp [intOf]; omega
end Go.Proofs.YtlfhcjhbnakamaaGreatDoor.Lab
