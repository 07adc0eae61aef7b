/-
  The ring: the walk of OwnersOf.
-/
import Derived.Test.YtcljeedmiobepaaRn2
import Derived.Test.YtcljeedmiobepaaRn3
import Derived.Test.YtcljeedmiobepaaRn5
import Derived.Test.YtcljeedmiobepaaRn9
namespace Go.Proofs.Ytcljeedmiobepaa.Rng
open Go.RowKit Go.Gh Go.Proofs.Ytcljeedmiobepaa.Nod
set_option linter.unusedVariables false
/-- A slice's length. -/
def lenV : Value → Nat
  | .slice _ n _ => n
  | _ => 0
open Classical in
theorem nodup_len : ∀ (A B : List ByteArray), A.Nodup → (∀ a ∈ A, a ∈ B) → A.length ≤ B.length
  | [], B, _, _ => Nat.zero_le _
  | a :: A, B, hn, hs => by
    obtain ⟨h1, h2⟩ := List.nodup_cons.1 hn
    have ha := hs a (by simp)
    have ih := nodup_len A (B.filter fun x => decide (x ≠ a)) h2 (fun x hx => List.mem_filter.2 ⟨hs x (by simp [hx]), decide_eq_true (fun e => h1 (by rw [← e]; exact hx))⟩)
    have := List.length_filter_lt_length_iff_exists.2 (⟨a, ha, by simp⟩ : ∃ x ∈ B, ¬ (decide (x ≠ a)) = true)
    simp only [List.length_cons]
    omega
theorem pickR_snoc (at' : Int) (out : List ByteArray) (b : Option Pl) (l : List Pl) (z : Pl) : pickR at' out b (l ++ [z]) = pickS at' out (pickR at' out b l) z := by
  unfold pickR
  rw [List.foldl_append]
  rfl
theorem pickR_mem (at' : Int) (out : List ByteArray) : ∀ (l : List Pl) (b : Option Pl) (y : Pl), pickR at' out b l = some y → (b = some y) ∨ (y ∈ l ∧ y.nm ∉ out)
  | [], b, y, h => Or.inl h
  | z :: l, b, y, h => by
    have h' : pickR at' out (pickS at' out b z) l = some y := h
    rcases pickR_mem at' out l _ y h' with h1 | ⟨h1, h2⟩
    · unfold pickS at h1
      split at h1
      · rename_i hc
        injection h1 with h1
        subst h1
        exact Or.inr ⟨by simp, hc.1⟩
      · exact Or.inl h1
    · exact Or.inr ⟨by simp [h1], h2⟩
/-- Is this place taken? -/
def pickC (at' : Int) (T : Bool) (b : Option Pl) (dz : Int) : Bool := !T && (match b with | none => true | some y => decide (dz < distR at' y.t))
theorem pickC_is (at' : Int) (out : List ByteArray) (b : Option Pl) (z : Pl) : pickS at' out b z = if pickC at' (hasS out z.nm) b (distR at' z.t) then some z else b := by
  unfold pickS pickC
  by_cases hm : z.nm ∈ out
  · rw [(hasS_mem out z.nm).2 hm]
    rw [if_neg (fun h => h.1 hm)]
    rfl
  · have : hasS out z.nm = false := by
      cases h : hasS out z.nm with
      | false => rfl
      | true => exact absurd ((hasS_mem out z.nm).1 h) hm
    rw [this]
    cases b with
    | none => rw [if_pos ⟨hm, fun y hy => by simp at hy⟩]; rfl
    | some y =>
      by_cases hd : distR at' z.t < distR at' y.t
      · rw [if_pos ⟨hm, fun y' hy => by injection hy with hy; subst hy; exact hd⟩]
        simp [hd]
      · rw [if_neg (fun h => hd (h.2 y rfl))]
        simp [hd]
theorem hasS_take {l : List ByteArray} {j : Nat} {z nm : ByteArray} (h : l[j]? = some z) : hasS (l.take (j + 1)) nm = (hasS (l.take j) nm || (z.toList == nm.toList)) := by
  obtain ⟨h1, h2⟩ := List.getElem?_eq_some_iff.1 h
  unfold hasS
  rw [List.take_succ_eq_append_getElem h1, h2, List.any_append]
  simp
/-- What best and far hold. -/
def BF (at' : Int) (b : Option Pl) (s f : Value) : Prop := match b with
  | none => s = .string ⟨#[]⟩ ∧ f = .int .u64 0
  | some y => s = .string y.nm ∧ f = .int .u64 (distR at' y.t)
set_option maxHeartbeats 16000000 in
set_option maxRecDepth 100000 in
theorem ownersof_any (v : Value) (L : List Nd) (at' : Int) (NN : Nat) (w : World) (hs : Sp NdR 2 w v L) (hz : nodesF L = 0) (ha : 0 ≤ at' ∧ at' < 18446744073709551616) (hNN : (NN : Int) < 9223372036854775808) :
    Calls Try.prog 66 #[v, .int .u64 at', .int .i64 NN] w fun e w' => ∃ v', e = .returned v' ∧ Ss w' v' (owF L at' NN) ∧ Below w.heap.size w w' := by
  obtain ⟨n, hn⟩ : ∃ n, L.length = n := ⟨_, rfl⟩
  obtain ⟨ao, c, rfl, hnc, hc⟩ := hs.shapeN hn
  have HTW := Lib.hid (tkw_of hs)
  have HN := Lib.hid hn
  have HS := Lib.hid hs
  have HZ := Lib.hid hz
  obtain ⟨z1, z2, z3⟩ := nodes_zero hz
  have HTK : Hid (∀ x ∈ L, x.tk.length ≤ 20) := Lib.hid fun x hx => (z2 x hx).2.2.1
  have HP4 : Hid (((pls L).map Pl.nm).length ≤ 400) := Lib.hid (by have := pls_len HTK.out; rw [List.length_map]; omega)
  have HPN : Hid (∀ y ∈ pls L, 1 ≤ y.nm.size) := Lib.hid fun y hy => (pls_size hz y hy).1
  clear hn hs hz z1 z2 z3
  go_enter Try.func66, Try.ntmps66
  go_wp2_with fail
  go_loopw [7] (fun u wr => ∃ (out : List ByteArray) (q : Nat), Hid (out.length = q) ∧ Hid (wr.ownsRow w.heap.size 9 1 u q (out.map Value.string)) ∧ Hid ((∀ r, GrR at' NN (pls L) out r → GrR at' NN (pls L) [] r) ∧ out.Nodup ∧ ∀ a ∈ out, a ∈ (pls L).map Pl.nm) ∧ lenV u = q ∧ Below w.heap.size w wr) (fun u _ => NN - lenV u)
  case atStart => exact ⟨[], 0, Lib.hid rfl, Lib.hid (World.ownsRow_nil _ _ _ _), Lib.hid ⟨fun r h => h, List.nodup_nil, fun a h => by simp at h⟩, rfl, Below.refl _ _⟩
  case round =>
    obtain ⟨out, q, HQ, HO, HG, hlen, hbel⟩ := hrel
    obtain ⟨W1, rfl⟩ : ∃ W1, W1 = wr := ⟨_, rfl⟩
    have hq4 : q ≤ 400 := by
      have := nodup_len _ _ HG.out.2.1 HG.out.2.2
      have h2 := HP4.out
      rw [HQ.out] at this
      omega
    obtain ⟨uo, uc, rfl, hu1, hu2, -⟩ := own_shape HO.out
    have HBL := Lib.hid hbel
    clear hbel hlen
    by_cases hfull : q < NN
    case neg =>
      have HR : Hid (Ss W1 (.slice uo q uc) (owF L at' NN)) := Lib.hid (by
        rw [← gr_owF HZ.out HTW.out ha (HG.out.1 _ (GrR.full out (by rw [HQ.out]; exact hfull)))]
        have := own_sl HO.out
        unfold Ss
        rw [HQ.out]
        exact this)
      go_wp2_with fail
      go_ret
      exact ⟨_, rfl, HR.out, HBL.out⟩
    go_wp2_with fail
    go_loopw [8, 9, 23] (fun s f i wr => ∃ k : Nat, k ≤ n ∧ i = .int .i64 k ∧ Hid (BF at' (pickR at' out none (pls (L.take k))) s f) ∧ Below W1.heap.size W1 wr) (fun _ _ i _ => n - (intOf i).toNat)
    case atStart => exact ⟨0, Nat.zero_le _, rfl, Lib.hid ⟨rfl, rfl⟩, Below.refl _ _⟩
    case round =>
      obtain ⟨k, hk, rfl, HBF, hbel⟩ := hrel
      have HBK := Lib.hid hbel
      have HOK : Hid (Ss wr (.slice uo q uc) out) := Lib.hid (by
        have := own_sl (own_below HO.out hbel)
        unfold Ss
        rw [HQ.out]
        exact this)
      by_cases hlt : k < n
      case neg =>
        obtain rfl : k = n := by omega
        have hLk : L.take k = L := List.take_of_length_le (by rw [HN.out]; exact Nat.le_refl _)
        rw [hLk] at HBF
        obtain ⟨b, hb⟩ : ∃ b, pickR at' out none (pls L) = b := ⟨_, rfl⟩
        rw [hb] at HBF
        have HB := Lib.hid hb
        have HOWR := Lib.hid (own_below HO.out hbel)
        have HBW : Hid (Below w.heap.size w wr) := Lib.hid (HBL.out.trans (hbel.mono HBL.out.size))
        clear hb hLk hbel
        cases b with
        | none =>
          obtain ⟨rfl, rfl⟩ := HBF.out
          have HR : Hid (Ss wr (.slice uo q uc) (owF L at' NN)) := Lib.hid (by
            rw [← gr_owF HZ.out HTW.out ha (HG.out.1 _ (GrR.none out (by rw [HQ.out]; exact hfull) HB.out))]
            exact HOK.out)
          go_wp2_with fail
          go_ret
          exact ⟨_, rfl, HR.out, HBW.out⟩
        | some y =>
          obtain ⟨rfl, rfl⟩ := HBF.out
          have hy : y ∈ pls L ∧ y.nm ∉ out := by
            rcases pickR_mem at' out (pls L) none y HB.out with h | h
            · simp at h
            · exact h
          obtain ⟨e1, e2⟩ := name_ne (s := y.nm) (by have := HPN.out y hy.1; omega)
          have HGN : Hid ((∀ r, GrR at' NN (pls L) (out ++ [y.nm]) r → GrR at' NN (pls L) [] r) ∧ (out ++ [y.nm]).Nodup ∧ ∀ a ∈ out ++ [y.nm], a ∈ (pls L).map Pl.nm) := Lib.hid ⟨fun r h => HG.out.1 r (GrR.some out y r (by rw [HQ.out]; exact hfull) HB.out h), List.nodup_append.2 ⟨HG.out.2.1, by simp, fun a ha b hb e => by
            have : b = y.nm := by simpa using hb
            rw [this] at e
            exact hy.2 (by rw [← e]; exact ha)⟩, fun a ha => by
            rcases List.mem_append.1 ha with ha | ha
            · exact HG.out.2.2 a ha
            · have : a = y.nm := by simpa using ha
              rw [this]
              exact List.mem_map.2 ⟨y, hy.1, rfl⟩⟩
          have HQN : Hid ((out ++ [y.nm]).length = q + 1) := Lib.hid (by rw [List.length_append, HQ.out]; rfl)
          clear hy
          go_wp2_with (at_builtin; refine append1 [.string y.nm] elStr rfl _ _ rfl HOWR.out HBW.out HBW.out.size rfl rfl rfl (by intro x hx; simp at hx; subst hx; rfl) ?c4 ?c5 ?_)
          case c4 => omega
          case c5 => omega
          intro v5 w5 hown5 hbel5 hgr5
          have HO5 : Hid (w5.ownsRow w.heap.size 9 1 v5 (q + 1) ((out ++ [y.nm]).map Value.string)) := Lib.hid (by rw [List.map_append]; exact hown5)
          have HB5 := Lib.hid hbel5
          obtain ⟨vo, vc, rfl, -, -, -⟩ := own_shape hown5
          clear hown5 hgr5 hbel5
          go_wp2_with fail
          go_roundw
          case rel => exact ⟨out ++ [y.nm], q + 1, HQN, HO5, HGN, rfl, HB5.out⟩
          case measure => simp [lenV]; omega
      obtain ⟨x, hx⟩ : ∃ x, L[k]? = some x := ⟨_, List.getElem?_eq_getElem (by rw [HN.out]; exact hlt)⟩
      obtain ⟨b, off, cs, rfl, ⟨t, rfl, htx⟩, _, hck⟩ := ((HS.out.below ndR_mono HBL.out).below ndR_mono hbel).get hx
      have HX := Lib.hid hx
      have HX20 : Hid (x.tk.length ≤ 20) := Lib.hid (HTK.out x (List.mem_of_getElem? hx))
      have c0 := hck 0 _ rfl
      have c1 := hck 1 _ rfl
      rw [Nat.add_zero] at c0
      obtain ⟨ta, tc, rfl, htc, htm, -⟩ := htx.1.shape
      have HTX := Lib.hid htx
      obtain ⟨m, hm⟩ : ∃ m, x.tk.length = m := ⟨_, rfl⟩
      rw [hm] at HTX htc c1
      have HM := Lib.hid hm
      clear hck hx htx hm
      obtain ⟨b0, hb0⟩ : ∃ b, pickR at' out none (pls (L.take k)) = b := ⟨_, rfl⟩
      rw [hb0] at HBF
      have HB0 := Lib.hid hb0
      clear hb0
      go_upto_region 8 with (fail)
      obtain ⟨wA, hwA⟩ : ∃ wA, wA = wr.alloc (Obj.cells #[.string x.nm, .slice ta m tc] 25) := ⟨_, rfl⟩
      have hbox : wA.heap[wr.heap.size]? = some (.cells #[.string x.nm, .slice ta m tc] 25 (0, 0)) := by rw [hwA]; exact heap_alloc_new wr _
      have hbA : Below wr.heap.size wr wA := by rw [hwA]; exact (Below.refl _ _).alloc (Nat.le_refl _) _
      rw [← hwA]
      have HBA : Hid (Below W1.heap.size W1 wA) := Lib.hid (HBK.out.trans (hbA.mono HBK.out.size))
      have HSA : Hid (Ss wA (.slice uo q uc) out) := Lib.hid (HOK.out.below hbA)
      have HTA : Hid (Toks wA (.slice ta m tc) x.tk) := Lib.hid (HTX.out.below hbA)
      obtain ⟨⟨y0, y1⟩, -⟩ := bx2 hbox
      generalize wr.heap.size = bx at *
      clear hwA hbox hbA c0 c1 hbel
      go_wp2_with fail
      go_loopw [12, 29] (fun T i wr => ∃ j : Nat, j ≤ q ∧ i = .int .i64 j ∧ T = .bool (hasS (out.take j) x.nm) ∧ wr = wA) (fun _ i _ => q - (intOf i).toNat)
      case atStart => exact ⟨0, Nat.zero_le _, rfl, rfl, rfl⟩
      case round =>
        obtain ⟨j, hj, rfl, rfl, hwe⟩ := hrel
        have hwe := hwe.symm
        subst hwe
        by_cases hlj : j < q
        · obtain ⟨z, hz⟩ : ∃ z, out[j]? = some z := ⟨_, List.getElem?_eq_getElem (by rw [HQ.out]; exact hlj)⟩
          obtain ⟨ob, ooff, rfl, o0⟩ := HSA.out.at hz
          have hht := hasS_take (nm := x.nm) hz
          obtain ⟨e, he⟩ : ∃ e, (z.toList == x.nm.toList) = e := ⟨_, rfl⟩
          obtain ⟨T, hT⟩ : ∃ T, hasS (out.take j) x.nm = T := ⟨_, rfl⟩
          rw [hT] at hht ⊢
          have HHT := Lib.hid hht
          have HE := Lib.hid he
          clear hz hht hT
          cases T with
          | true =>
            go_wp2_with fail
            go_roundw
            case rel => exact ⟨j + 1, by omega, by go_num, by rw [HHT.out]; rfl, by trivial⟩
            case measure => simp [intOf]; omega
          | false =>
            go_wp2_with fail
            go_roundw
            case rel => exact ⟨j + 1, by omega, by go_num, by rw [HHT.out, HE.out]; rfl, by trivial⟩
            case measure => simp [intOf]; omega
        obtain rfl : j = q := by omega
        have hfo : out.take j = out := List.take_of_length_le (by rw [HQ.out]; exact Nat.le_refl _)
        rw [hfo]
        obtain ⟨T, hT⟩ : ∃ T, hasS out x.nm = T := ⟨_, rfl⟩
        rw [hT]
        have HT := Lib.hid hT
        clear hT hfo
        go_wp2_with fail
        go_loopw [8, 9, 44] (fun s f i wr => ∃ j : Nat, j ≤ m ∧ i = .int .i64 j ∧ Hid (BF at' (pickR at' out none (pls (L.take k) ++ (plN x).take j)) s f) ∧ wr = wA) (fun _ _ i _ => m - (intOf i).toNat)
        case atStart => exact ⟨0, Nat.zero_le _, rfl, Lib.hid (by rw [List.take_zero, List.append_nil, HB0.out]; exact HBF.out), rfl⟩
        case round =>
          obtain ⟨j, hj, rfl, HBJ, hwe⟩ := hrel
          have hwe := hwe.symm
          subst hwe
          by_cases hlm : j < m
          case neg =>
            obtain rfl : j = m := by omega
            have hfull2 : (plN x).take j = plN x := List.take_of_length_le (by rw [plN_len, HM.out]; exact Nat.le_refl _)
            have HBN : Hid (BF at' (pickR at' out none (pls (L.take (k + 1)))) u8 u9) := Lib.hid (by rw [pls_take HX.out, ← hfull2]; exact HBJ.out)
            clear hfull2
            go_wp2_with fail
            go_roundw
            case rel => exact ⟨k + 1, by omega, by go_num, HBN, HBA.out⟩
            case measure => simp [intOf]; omega
          have hz : x.tk[j]? = some (x.tk.getD j 0) := by
            have h1 : j < x.tk.length := by rw [HM.out]; exact hlm
            rw [List.getElem?_eq_getElem h1, List.getD_eq_getElem?_getD, List.getElem?_eq_getElem h1]
            rfl
          obtain ⟨tb, toff, rfl, z0⟩ := HTA.out.at (i := j) (by rw [HM.out]; exact hlm)
          obtain ⟨z, hzz⟩ : ∃ z, x.tk.getD j 0 = z := ⟨_, rfl⟩
          rw [hzz] at hz z0
          have hzw := HTW.out x (List.mem_of_getElem? HX.out) z (List.mem_of_getElem? hz)
          obtain ⟨b, hb⟩ : ∃ b, pickR at' out none (pls (L.take k) ++ (plN x).take j) = b := ⟨_, rfl⟩
          rw [hb] at HBJ
          obtain ⟨dz, hdz⟩ : ∃ dz, distR at' z = dz := ⟨_, rfl⟩
          have hsub : IntKind.u64.wrap (z - at') = dz := by rw [IntKind.wrap_u64, ← hdz]; rfl
          obtain ⟨C, hC⟩ : ∃ C, pickC at' T b dz = C := ⟨_, rfl⟩
          have HBN : Hid (pickR at' out none (pls (L.take k) ++ (plN x).take (j + 1)) = if C then some ⟨z, x.nm⟩ else b) := Lib.hid (by
            rw [plN_take hz, ← List.append_assoc, pickR_snoc, hb, pickC_is, ← hC, hdz]
            dsimp only
            rw [HT.out])
          have HDZ := Lib.hid hdz
          have HC := Lib.hid hC
          have HYN : Hid (∀ y, b = some y → 1 ≤ y.nm.size) := Lib.hid (fun y hy => by
            rw [hy] at hb
            rcases pickR_mem at' out _ none y hb with h | h
            · simp at h
            · refine HPN.out y ?_
              rcases List.mem_append.1 h.1 with h1 | h1
              · obtain ⟨nd, hnd, h2, h3⟩ := mem_pls.1 h1
                exact mem_pls.2 ⟨nd, List.mem_of_mem_take hnd, h2, h3⟩
              · obtain ⟨tt, htt, rfl⟩ := List.mem_map.1 (List.mem_of_mem_take h1 : y ∈ plN x)
                exact mem_pls.2 ⟨x, List.mem_of_getElem? HX.out, htt, rfl⟩)
          clear hz hzz hb hC hdz
          go_upto_region 17 with (fail)
          go_cut [60] (fun t wx => t = .bool C ∧ wx = wA)
          case first =>
            cases T with
            | true =>
              obtain rfl : C = false := HC.out.symm
              go_wp2_with fail
              go_meet
              exact ⟨rfl, rfl⟩
            | false =>
              cases b with
              | none =>
                obtain ⟨rfl, rfl⟩ := HBJ.out
                obtain rfl : C = true := HC.out.symm
                go_wp2_with fail
                go_meet
                exact ⟨rfl, rfl⟩
              | some y =>
                obtain ⟨rfl, rfl⟩ := HBJ.out
                obtain ⟨e1, e2⟩ := name_ne (s := y.nm) (by have := HYN.out y rfl; omega)
                have hCd : decide (dz < distR at' y.t) = C := by have := HC.out; unfold pickC at this; simpa using this
                have HCD := Lib.hid hCd
                clear hCd
                by_cases hdd : dz < distR at' y.t
                · obtain rfl : C = true := by rw [← HCD.out]; exact decide_eq_true hdd
                  go_wp2_with fail
                  go_meet
                  exact ⟨rfl, rfl⟩
                · obtain rfl : C = false := by rw [← HCD.out]; exact decide_eq_false hdd
                  go_wp2_with fail
                  go_meet
                  exact ⟨rfl, rfl⟩
          obtain ⟨rfl, hwc⟩ := hcut
          have hwc := hwc.symm
          subst hwc
          cases C with
          | true =>
            have HB2 : Hid (BF at' (pickR at' out none (pls (L.take k) ++ (plN x).take (j + 1))) (.string x.nm) (.int .u64 dz)) := Lib.hid (by
              rw [HBN.out]
              exact ⟨rfl, by rw [← HDZ.out]⟩)
            go_wp2_with fail
            go_roundw
            case rel => exact ⟨j + 1, by omega, by go_num, HB2, by trivial⟩
            case measure => simp [intOf]; omega
          | false =>
            have HB2 : Hid (BF at' (pickR at' out none (pls (L.take k) ++ (plN x).take (j + 1))) u8 u9) := Lib.hid (by
              rw [HBN.out]
              exact HBJ.out)
            go_wp2_with fail
            go_roundw
            case rel => exact ⟨j + 1, by omega, by go_num, HB2, by trivial⟩
            case measure => simp [intOf]; omega
end Go.Proofs.Ytcljeedmiobepaa.Rng
/-
  The walk of claim.own.
-/
namespace Go.Proofs.Ytcljeedmiobepaa.Nod
open Go.RowKit Go.Gh
set_option linter.unusedVariables false
set_option maxHeartbeats 4000000 in
set_option maxRecDepth 100000 in
theorem own_any (v : Value) (x : Cl) (w : World) (hv : ClV w v x) (hn : x.tk.length ≤ 1000000) : Calls Try.prog 102 #[v] w fun e w' =>
    ∃ t', e = .returned (.agg #[.int .i64 x.ver, .int .i64 x.st, .string x.nm, t']) ∧ w'.ownsRow w.heap.size 99 1 t' x.tk.length (x.tk.map (Value.int .u64)) ∧ Below w.heap.size w w' := by
  obtain ⟨t, rfl, hta⟩ := hv
  obtain ⟨av, sa, an, atk⟩ := x
  dsimp only at *
  obtain ⟨ao, c, rfl, hnc, hc, -⟩ := hta.1.shape
  have HTA := Lib.hid hta
  clear hta
  go_enter Try.func102, Try.ntmps102
  go_wp2_with fail
  obtain ⟨wA, hwA⟩ : ∃ wA, wA = (w.alloc (Obj.cells #[.int .i64 av, .int .i64 sa, .string an, .slice ao atk.length c] 27)).alloc (Obj.cells #[.int .i64 0, .int .i64 0, .string ⟨#[]⟩, .slice none 0 0] 27) := ⟨_, rfl⟩
  have hb1 : wA.heap[w.heap.size]? = some (.cells #[.int .i64 av, .int .i64 sa, .string an, .slice ao atk.length c] 27 (0, 0)) := by rw [hwA]; exact two_first w _ _
  have hb2 : wA.heap[w.heap.size + 1]? = some (.cells #[.int .i64 0, .int .i64 0, .string ⟨#[]⟩, .slice none 0 0] 27 (0, 0)) := by rw [hwA]; exact two_second w _ _
  have hBA : Below w.heap.size w wA := by rw [hwA]; exact ((Below.refl _ _).alloc (Nat.le_refl _) _).alloc (by simp) _
  have hsA : wA.heap.size = w.heap.size + 1 + 1 := by rw [hwA]; simp
  rw [← hwA]
  have HBA := Lib.hid hBA
  have HSA := Lib.hid hsA
  have HTA1 : Hid (Toks wA (.slice ao atk.length c) atk) := Lib.hid (HTA.out.below hBA)
  have HB1 := Lib.hid hb1
  have HB2 := Lib.hid hb2
  clear hwA hBA hsA hb1 hb2 HTA
  refine (clone_u64 _ _ atk _ HTA1.out.1 hn).mono ?_
  rintro e w1 ⟨t', rfl, hown, hb⟩
  obtain ⟨uo, uc, rfl, -, -, -⟩ := own_shape hown
  obtain ⟨t', ht'⟩ : ∃ t', t' = Value.slice uo atk.length uc := ⟨_, rfl⟩
  rw [← ht'] at hown
  have hl1 : w.heap.size < wA.heap.size := by have := HSA.out; omega
  have hl2 : w.heap.size + 1 < wA.heap.size := by have := HSA.out; omega
  have h1 := (hb.block _ hl1).trans HB1.out
  have h2 := (hb.block _ hl2).trans HB2.out
  have hne : ∀ k, k < wA.heap.size → t'.ownBlock ≠ some k := by
    intro k hk he
    have := (hown.lt k he).1
    omega
  have HOWN : Hid ((setCells (w1.setCell ⟨w.heap.size, 3, none⟩ t') (w.heap.size + 1) 0 [.int .i64 av, .int .i64 sa, .string an, t']).ownsRow w.heap.size 99 1 t' atk.length (atk.map (Value.int .u64))) := Lib.hid (own_mono (own_stores_other (hne _ hl2) _ _ 0 (ownsRow_setCell_other hown (a := ⟨w.heap.size, 3, none⟩) (hne _ hl1) t')) (by omega))
  have HBW : Hid (Below w.heap.size w (setCells (w1.setCell ⟨w.heap.size, 3, none⟩ t') (w.heap.size + 1) 0 [.int .i64 av, .int .i64 sa, .string an, t'])) := Lib.hid (below_stores (by omega) _ _ 0 ((HBA.out.trans (hb.mono (by omega))).setCell (p := ⟨w.heap.size, 3, none⟩) (Nat.le_refl _) t'))
  have h3 := row_setCell 3 t' h1
  have h4 : (w1.setCell ⟨w.heap.size, 3, none⟩ t').heap[w.heap.size + 1]? = _ := row_setCell_other t' h2 (by omega)
  have h5 : (setCells (w1.setCell ⟨w.heap.size, 3, none⟩ t') (w.heap.size + 1) 0 [.int .i64 av, .int .i64 sa, .string an, t']).heap[w.heap.size + 1]? = some (.cells #[.int .i64 av, .int .i64 sa, .string an, t'] 27 (0, 0)) := box_over (cs := [_, _, _, _]) h4 rfl
  obtain ⟨⟨p0, p1, p2, p3⟩, ⟨f0, f1, f2, f3⟩⟩ := bx4 h1
  obtain ⟨⟨q0, q1, q2, q3⟩, ⟨g0, g1, g2, g3⟩⟩ := bx4 h3
  obtain ⟨⟨r0, r1, r2, r3⟩, ⟨k0, k1, k2, k3⟩⟩ := bx4 h4
  obtain ⟨⟨s0, s1, s2, s3⟩, -⟩ := bx4 h5
  have H5 := Lib.hid (And.intro s0 (And.intro s1 (And.intro s2 s3)))
  subst ht'
  clear hown hb hne h1 h2 h3 h4 h5 s0 s1 s2 s3
  go_wp2_with fail
  obtain ⟨s0, s1, s2, s3⟩ := H5.out
  simp only [setCells, Nat.zero_add, Nat.reduceAdd] at s0 s1 s2 s3
  refine bodyPost_ret (v := .agg #[.int .i64 av, .int .i64 sa, .string an, .slice uo atk.length uc]) (by simp [results, Try.results102, go_sem, s0, s1, s2, s3]) rfl ?_
  exact ⟨_, rfl, HOWN.out, HBW.out⟩
end Go.Proofs.Ytcljeedmiobepaa.Nod
/-
  Two lists in the order of their keys: merged, and inserted one by one, come to the same.
-/
namespace Go.Gh
set_option linter.unusedVariables false
section
variable {α : Type} (k : α → Int) (both : α → α → α)
def mrgG : List α → List α → List α
  | [], b => b
  | x :: a, [] => x :: a
  | x :: a, y :: b => if k x < k y then x :: mrgG a (y :: b) else if k y < k x then y :: mrgG (x :: a) b else both x y :: mrgG a b
termination_by a b => a.length + b.length
def insG : List α → α → List α
  | [], y => [y]
  | o :: out, y => if k o < k y then o :: insG out y else if k o = k y then both o y :: out else y :: o :: out
def besG (out : List α) : List α → List α
  | [] => out
  | y :: b => besG (insG k both out y) b
end
section
variable {α : Type} {k : α → Int} {both : α → α → α}
theorem mrgG_nil (a : List α) : mrgG k both a [] = a := by cases a <;> rw [mrgG]
theorem mrgG_nil' (b : List α) : mrgG k both [] b = b := by rw [mrgG]
theorem mrgG_lt {x y : α} {a b : List α} (h : k x < k y) : mrgG k both (x :: a) (y :: b) = x :: mrgG k both a (y :: b) := by rw [mrgG, if_pos h]
theorem mrgG_gt {x y : α} {a b : List α} (h : k y < k x) : mrgG k both (x :: a) (y :: b) = y :: mrgG k both (x :: a) b := by rw [mrgG, if_neg (by omega), if_pos h]
theorem mrgG_eq {x y : α} {a b : List α} (h : k x = k y) : mrgG k both (x :: a) (y :: b) = both x y :: mrgG k both a b := by rw [mrgG, if_neg (by omega), if_neg (by omega)]
theorem mrgG_len (n : Nat) : ∀ (a b : List α), a.length + b.length ≤ n → (mrgG k both a b).length ≤ a.length + b.length := by
  induction n with
  | zero =>
    intro a b hn
    obtain rfl : a = [] := List.length_eq_zero_iff.1 (by omega)
    rw [mrgG_nil']
    omega
  | succ n ih =>
    intro a b hn
    match a, b with
    | [], b => rw [mrgG_nil']; omega
    | x :: a, [] => rw [mrgG_nil]; omega
    | x :: a, y :: b =>
      rw [List.length_cons, List.length_cons] at hn
      rw [mrgG]
      split
      · have := ih a (y :: b) (by rw [List.length_cons]; omega)
        simp only [List.length_cons] at this ⊢
        omega
      · split
        · have := ih (x :: a) b (by rw [List.length_cons]; omega)
          simp only [List.length_cons] at this ⊢
          omega
        · have := ih a b (by omega)
          simp only [List.length_cons] at this ⊢
          omega
theorem besG_front (b : List α) : ∀ (x : α) (a : List α), (∀ z ∈ b, k x < k z) → besG k both (x :: a) b = x :: besG k both a b := by
  induction b with
  | nil => intro x a _; rfl
  | cons y b ih =>
    intro x a h
    rw [besG, besG, insG, if_pos (h y (by simp))]
    exact ih _ _ fun z hz => h z (by simp [hz])
def AscG (k : α → Int) (l : List α) : Prop := l.Pairwise fun x y => k x < k y
theorem besG_nil (b : List α) (h : AscG k b) : besG k both [] b = b := by
  induction b with
  | nil => rfl
  | cons y b ih =>
    have h' := List.pairwise_cons.1 h
    rw [besG, insG, besG_front b y [] h'.1, ih h'.2]
theorem bes_mrg (hk : ∀ x y, k x = k y → k (both x y) = k x) (n : Nat) : ∀ (a b : List α), a.length + b.length ≤ n → AscG k a → AscG k b → besG k both a b = mrgG k both a b := by
  induction n with
  | zero =>
    intro a b hn _ _
    obtain rfl : a = [] := List.length_eq_zero_iff.1 (by omega)
    obtain rfl : b = [] := List.length_eq_zero_iff.1 (by omega)
    rw [mrgG_nil]; rfl
  | succ n ih =>
    intro a b hn ha hb
    match a, b with
    | [], b => rw [mrgG_nil', besG_nil b hb]
    | x :: a, [] => rw [mrgG_nil]; rfl
    | x :: a, y :: b =>
      have ha' := List.pairwise_cons.1 ha
      have hb' := List.pairwise_cons.1 hb
      rw [List.length_cons, List.length_cons] at hn
      rcases Int.lt_trichotomy (k x) (k y) with h | h | h
      · have hall : ∀ z ∈ y :: b, k x < k z := by
          intro z hz
          rcases List.mem_cons.1 hz with h' | h'
          · rw [h']; exact h
          · have := hb'.1 z h'; omega
        rw [mrgG_lt h, besG_front _ x a hall, ih a (y :: b) (by rw [List.length_cons]; omega) ha'.2 hb]
      · have hall : ∀ z ∈ b, k (both x y) < k z := by
          intro z hz; rw [hk x y h]; have := hb'.1 z hz; omega
        rw [besG, insG, if_neg (by omega), if_pos h, besG_front b _ a hall, mrgG_eq h, ih a b (by omega) ha'.2 hb'.2]
      · have hall : ∀ z ∈ b, k y < k z := hb'.1
        rw [besG, insG, if_neg (by omega), if_neg (by omega), besG_front b y (x :: a) hall, mrgG_gt h, ih (x :: a) b (by rw [List.length_cons]; omega) ha hb'.2]
theorem insG_at (p : List α) : ∀ (q : List α) (y : α), (∀ o ∈ p, k o < k y) → (∀ o r, q = o :: r → ¬ k o < k y) → insG k both (p ++ q) y = p ++ (match q with | [] => [y] | o :: r => if k o = k y then both o y :: r else y :: o :: r) := by
  induction p with
  | nil =>
    intro q y _ hq
    cases q with
    | nil => rfl
    | cons o r => rw [List.nil_append, List.nil_append, insG, if_neg (hq o r rfl)]
  | cons x p ih =>
    intro q y hp hq
    rw [List.cons_append, insG, if_pos (hp x (by simp)), ih q y (fun o ho => hp o (by simp [ho])) hq]
    rfl
/-- How far an insertion has come: the first i are ahead. -/
def AheadG (k : α → Int) (acc : List α) (y : α) (i : Nat) : Prop := i ≤ acc.length ∧ ∀ o ∈ acc.take i, k o < k y
theorem AheadG.zero (acc : List α) (y : α) : AheadG k acc y 0 := ⟨Nat.zero_le _, fun o ho => by simp at ho⟩
theorem AheadG.succ {acc : List α} {y x : α} {i : Nat} (h : AheadG k acc y i) (hx : acc[i]? = some x) (hlt : k x < k y) : AheadG k acc y (i + 1) := by
  have hi : i < acc.length := (List.getElem?_eq_some_iff.1 hx).1
  have hxe : acc[i] = x := (List.getElem?_eq_some_iff.1 hx).2
  refine ⟨hi, fun o ho => ?_⟩
  rw [List.take_succ_eq_append_getElem hi, hxe] at ho
  rcases List.mem_append.1 ho with h' | h'
  · exact h.2 o h'
  · have : o = x := by simpa using h'
    rw [this]; exact hlt
theorem insG_end {acc : List α} {y : α} {i : Nat} (h : AheadG k acc y i) (hi : i = acc.length) : insG k both acc y = acc ++ [y] := by
  have h2 : ∀ o ∈ acc, k o < k y := by
    have := h.2
    rwa [hi, List.take_of_length_le (Nat.le_refl _)] at this
  have := insG_at (both := both) acc [] y h2 (fun o r ho => by simp at ho)
  rwa [List.append_nil] at this
theorem insG_mid {acc : List α} {y x : α} {i : Nat} (h : AheadG k acc y i) (hx : acc[i]? = some x) (hge : ¬ k x < k y) : insG k both acc y = if k x = k y then acc.set i (both x y) else acc.take i ++ y :: acc.drop i := by
  have hi : i < acc.length := (List.getElem?_eq_some_iff.1 hx).1
  have hxe : acc[i] = x := (List.getElem?_eq_some_iff.1 hx).2
  have hsplit : acc = acc.take i ++ x :: acc.drop (i + 1) := by
    rw [← hxe, ← List.drop_eq_getElem_cons hi, List.take_append_drop]
  have := insG_at (both := both) (acc.take i) (x :: acc.drop (i + 1)) y h.2 (fun o r ho => by injection ho with h1 _; rw [← h1]; exact hge)
  rw [← hsplit] at this
  rw [this]
  by_cases he : k x = k y
  · rw [if_pos he, List.set_eq_take_append_cons_drop, if_pos hi]
    simp only [if_pos he]
  · rw [if_neg he]
    simp only [if_neg he]
    rw [← hxe, ← List.drop_eq_getElem_cons hi]
theorem besG_snoc (b : List α) (y : α) : ∀ out : List α, besG k both out (b ++ [y]) = insG k both (besG k both out b) y := by
  induction b with
  | nil => intro out; rfl
  | cons x b ih => intro out; rw [List.cons_append, besG, besG, ih]
theorem insG_len (out : List α) (y : α) : (insG k both out y).length ≤ out.length + 1 := by
  induction out with
  | nil => simp [insG]
  | cons o out ih =>
    rw [insG]
    split
    · simpa using ih
    · split <;> simp
theorem besG_len (b : List α) : ∀ out : List α, (besG k both out b).length ≤ out.length + b.length := by
  induction b with
  | nil => intro out; exact Nat.le_refl _
  | cons y b ih =>
    intro out
    rw [besG]
    have h1 := ih (insG k both out y)
    have h2 := insG_len (k := k) (both := both) out y
    rw [List.length_cons]
    omega
end
end Go.Gh
/-
  Claims: one step of their check.
-/
namespace Go.Gh
set_option linter.unusedVariables false
def pkc (p : Option Cl) : Int := match p with | none => 0 | some q => keyS q.nm
section
variable {p : Option Cl} {x : Cl} {L : List Cl}
theorem node_key {nm : ByteArray} {tk : List Int} (h : nodeF nm tk = 0) : 0 < keyS nm ∧ nm.size ≤ 20 := by
  have := node_zero h
  exact ⟨key_one (by omega), this.2.1⟩
theorem goF_node (h : ¬ nodeF x.nm x.tk = 0) : goF p (x :: L) = nodeF x.nm x.tk := by rw [goF, if_pos h]
theorem goF_order (h : nodeF x.nm x.tk = 0) (h2 : keyS x.nm ≤ pkc p) : goF p (x :: L) = 5 := by
  have hk := node_key h
  rw [goF, if_neg (by omega), if_pos]
  match p, h2 with
  | none, h2 => unfold pkc at h2; simp only at h2; omega
  | some q, h2 => exact ⟨q, rfl, h2⟩
theorem goF_skip (h : nodeF x.nm x.tk = 0) (h2 : ¬ keyS x.nm ≤ pkc p) : goF p (x :: L) = if x.ver < 0 ∨ x.st < 1 ∨ 4 < x.st then 4 else goF (some x) L := by
  rw [goF, if_neg (by omega), if_neg]
  rintro ⟨q, rfl, h3⟩
  exact h2 h3
theorem goF_form (h : nodeF x.nm x.tk = 0) (h2 : ¬ keyS x.nm ≤ pkc p) (h3 : x.ver < 0 ∨ x.st < 1 ∨ 4 < x.st) : goF p (x :: L) = 4 := by rw [goF_skip h h2, if_pos h3]
theorem goF_on (h : nodeF x.nm x.tk = 0) (h2 : ¬ keyS x.nm ≤ pkc p) (h3 : ¬ (x.ver < 0 ∨ x.st < 1 ∨ 4 < x.st)) : goF p (x :: L) = goF (some x) L := by rw [goF_skip h h2, if_neg h3]
end
/-- The claims of both, of each name the newer one. -/
def kc (c : Cl) : Int := keyS c.nm
def newC (x y : Cl) : Cl := if newerC y x then y else x
def mrgC (a b : List Cl) : List Cl := mrgG kc newC a b
def besC (a b : List Cl) : List Cl := besG kc newC a b
theorem newC_key (x y : Cl) (h : kc x = kc y) : kc (newC x y) = kc x := by
  unfold newC
  split
  · exact h.symm
  · rfl
theorem bes_mrgC {a b : List Cl} (ha : claimsF a = 0) (hb : claimsF b = 0) : besC a b = mrgC a b :=
  bes_mrg newC_key (a.length + b.length) a b (Nat.le_refl _) (claims_zero ha).2.2 (claims_zero hb).2.2
end Go.Gh
/-
  The walk of claim.Check.
-/
namespace Go.Proofs.Ytcljeedmiobepaa.Nod
open Go.RowKit Go.Gh
set_option linter.unusedVariables false
theorem sp_new {α : Type} {R : World → α → List Value → Prop} (W : World) {T : TypeId} {k : Nat} (a : α) (c : List Value) (hc : c.length = k) (hR : R (W.alloc (.cells c.toArray T)) a c) : Sp R k (W.alloc (.cells c.toArray T)) (.slice (some ⟨W.heap.size, 0, none⟩) 1 1) [a] := by
  refine ⟨[(a, c)], rfl, ?_, ?_, ?_⟩
  · intro p hp
    have : p = (a, c) := by simpa using hp
    rw [this]; exact hc
  · intro p hp
    have : p = (a, c) := by simpa using hp
    rw [this]; exact hR
  · have := sl_new W (e := T) (size := k) (n := 1) c (by omega) (by decide)
    rw [pc_cons, pc_nil, List.append_nil]
    exact this
set_option maxHeartbeats 4000000 in
set_option maxRecDepth 100000 in
theorem clcheck_any (v : Value) (L : List Cl) (w : World) (hs : Sp ClR 4 w v L) : Calls Try.prog 20 #[v] w fun e w' => e = .returned (.int .i64 (claimsF L)) ∧ Below w.heap.size w w' := by
  obtain ⟨ao, c, rfl, hnc, hc⟩ := hs.shape
  obtain ⟨n, hn⟩ : ∃ n, n = L.length := ⟨_, rfl⟩
  rw [← hn] at hs hnc ⊢
  have HN := Lib.hid hn
  obtain ⟨F, hF⟩ : ∃ F, claimsF L = F := ⟨_, rfl⟩
  rw [hF]
  have HS := Lib.hid hs
  by_cases hbig : 20 < n
  · have hF2 : F = 2 := by rw [← hF]; exact if_pos (by omega)
    clear hn hF hs
    subst hF2
    go_enter Try.func20, Try.ntmps20
    go_wp2_with fail
    go_ret
    exact ⟨rfl, Below.refl _ _⟩
  have HG : Hid (F = goF none L) := Lib.hid (by rw [← hF]; exact if_neg (by omega))
  clear hn hF hs
  go_enter Try.func20, Try.ntmps20
  go_wp2_with fail
  go_loopw [2, 3, 12] (fun r s i wr => ∃ (k : Nat) (p : Option Cl) (t : ByteArray), k ≤ n ∧ i = .int .i64 k ∧ r = .int .i64 0 ∧ s = .string t ∧ Hid (t.size ≤ 20 ∧ keyS t = pkc p) ∧ Hid (F = goF p (L.drop k)) ∧ Below w.heap.size w wr) (fun _ _ i _ => n - (intOf i).toNat)
  case atStart => exact ⟨0, none, ⟨#[]⟩, Nat.zero_le _, rfl, rfl, rfl, Lib.hid ⟨by decide, key_empty⟩, HG, Below.refl _ _⟩
  case round =>
    obtain ⟨k, p, t, hk, rfl, rfl, rfl, HT, HF, hbr⟩ := hrel
    by_cases hlt : k < n
    case neg =>
      obtain rfl : k = n := by omega
      have h0 : F = 0 := by rw [HF.out, HN.out, List.drop_of_length_le (Nat.le_refl _), goF]
      subst h0
      go_wp2_with fail
      go_ret
      exact ⟨rfl, hbr⟩
    obtain ⟨x, hx⟩ : ∃ x, L[k]? = some x := ⟨_, List.getElem?_eq_getElem (by rw [← HN.out]; exact hlt)⟩
    obtain ⟨b, off, cs, rfl, ⟨t', rfl, htk⟩, _, hck⟩ := (HS.out.below clR_mono hbr).get hx
    have HF2 : Hid (F = goF p (x :: L.drop (k + 1))) := Lib.hid (by rw [HF.out, drop_at hx])
    have c0 := hck 0 _ rfl
    have c1 := hck 1 _ rfl
    have c2 := hck 2 _ rfl
    have c3 := hck 3 _ rfl
    rw [Nat.add_zero] at c0
    obtain ⟨ver, st, nm, tk⟩ := x
    dsimp only at *
    have HTK := Lib.hid htk
    obtain ⟨tw, htk1⟩ := htk
    obtain ⟨ta, tc, rfl, ht1, ht2, -⟩ := tw.shape
    obtain ⟨m, hm⟩ : ∃ m, m = tk.length := ⟨_, rfl⟩
    rw [← hm] at c3 HTK ht1
    have HM := Lib.hid hm
    clear hx hck tw htk1 hm HF
    obtain ⟨E, hE⟩ : ∃ E, nodeF nm tk = E := ⟨_, rfl⟩
    have HE := Lib.hid hE
    clear hE
    go_upto_region 7 with (fail)
    obtain ⟨wA, hwA⟩ : ∃ wA, wA = wr.alloc (Obj.cells #[.int .i64 ver, .int .i64 st, .string nm, .slice ta m tc] 27) := ⟨_, rfl⟩
    have hA0 : wA.cell? ⟨wr.heap.size, 0, none⟩ = some (.int .i64 ver) := by rw [hwA]; exact cell_new wr _ [_, _, _, _] 0 _ rfl
    have hA1 : wA.cell? ⟨wr.heap.size, 1, none⟩ = some (.int .i64 st) := by rw [hwA]; exact cell_new wr _ [_, _, _, _] 1 _ rfl
    have hA2 : wA.cell? ⟨wr.heap.size, 2, none⟩ = some (.string nm) := by rw [hwA]; exact cell_new wr _ [_, _, _, _] 2 _ rfl
    have hA3 : wA.cell? ⟨wr.heap.size, 3, none⟩ = some (.slice ta m tc) := by rw [hwA]; exact cell_new wr _ [_, _, _, _] 3 _ rfl
    have hBA : Below w.heap.size w wA := by rw [hwA]; exact hbr.alloc hbr.size _
    have hTA : Toks wA (.slice ta m tc) tk := HTK.out.below (by rw [hwA]; exact (Below.refl _ _).alloc (Nat.le_refl _) _)
    have hAs : wr.heap.size < wA.heap.size := by rw [hwA]; simp
    rw [← hwA]
    generalize hbx : wr.heap.size = bx at *
    have hSN := sp_new (R := NdR) (T := 25) (k := 2) wA (⟨nm, tk⟩ : Nd) [.string nm, .slice ta m tc] rfl ⟨_, rfl, hTA.below ((Below.refl _ _).alloc (Nat.le_refl _) _)⟩
    have HSN := Lib.hid hSN
    have HNO : Hid (nodesF [⟨nm, tk⟩] = E) := Lib.hid (by rw [nodes_one]; exact HE.out)
    have HBN : Hid (Below wA.heap.size wA (wA.alloc (Obj.cells #[.string nm, .slice ta m tc] 25))) := Lib.hid ((Below.refl _ _).alloc (Nat.le_refl _) _)
    have HBAH := Lib.hid hBA
    clear hwA hbr c0 c1 c2 c3 HTK hTA hSN hBA hbx
    go_wp2_with fail
    refine (check_any _ _ _ HSN.out).mono ?_
    rw [HNO.out]
    rintro e w2 ⟨rfl, hb2⟩
    have hb3 := HBN.out.trans (hb2.mono HBN.out.size)
    have HBW := Lib.hid (HBAH.out.trans (hb3.mono HBAH.out.size))
    have d0 : w2.cell? ⟨bx, 0, none⟩ = some (.int .i64 ver) := (hb3.cell (p := ⟨bx, 0, none⟩) hAs).trans hA0
    have d1 : w2.cell? ⟨bx, 1, none⟩ = some (.int .i64 st) := (hb3.cell (p := ⟨bx, 1, none⟩) hAs).trans hA1
    have d2 : w2.cell? ⟨bx, 2, none⟩ = some (.string nm) := (hb3.cell (p := ⟨bx, 2, none⟩) hAs).trans hA2
    have d3 : w2.cell? ⟨bx, 3, none⟩ = some (.slice ta m tc) := (hb3.cell (p := ⟨bx, 3, none⟩) hAs).trans hA3
    clear hb2 hb3 hA0 hA1 hA2 hA3
    by_cases he : E = 0
    case neg =>
      have h5 : F = E := by rw [HF2.out, ← HE.out]; exact goF_node (by show ¬ nodeF nm tk = 0; rw [HE.out]; exact he)
      have t1 : (E != 0) = true := by rw [bne_iff_ne]; exact he
      clear he
      subst h5
      go_wp2_with fail
      go_ret
      exact ⟨rfl, HBW.out⟩
    subst he
    have hcmp := name_le (s := nm) (t := t) (node_key HE.out).2 HT.out.1
    rw [HT.out.2] at hcmp
    obtain ⟨D, hD⟩ : ∃ D, decide (keyS nm ≤ pkc p) = D := ⟨_, rfl⟩
    rw [hD] at hcmp
    have HD := Lib.hid hD
    have HS20 := Lib.hid (node_key HE.out).2
    generalize hb1 : Op.bytesLess nm.toList t.toList = b1 at *
    generalize hb2 : (nm.toList == t.toList) = b2 at *
    clear hD
    cases D with
    | true =>
      have h5 : F = 5 := by rw [HF2.out]; exact goF_order HE.out (of_decide_eq_true HD.out)
      subst h5
      cases b1 with
      | true =>
        clear hcmp
        go_wp2_with fail
        go_ret
        exact ⟨rfl, HBW.out⟩
      | false =>
        obtain rfl : b2 = true := by simpa using hcmp
        clear hcmp
        go_wp2_with fail
        go_ret
        exact ⟨rfl, HBW.out⟩
    | false =>
    obtain ⟨rfl, rfl⟩ : b1 = false ∧ b2 = false := by simpa using hcmp
    clear hcmp
    by_cases hbad : ver < 0 ∨ st < 1 ∨ 4 < st
    · have h5 : F = 4 := by rw [HF2.out]; exact goF_form HE.out (of_decide_eq_false HD.out) hbad
      subst h5
      by_cases h1 : ver < 0
      · go_wp2_with fail
        go_ret
        exact ⟨rfl, HBW.out⟩
      by_cases h2 : st < 1
      · go_wp2_with fail
        go_ret
        exact ⟨rfl, HBW.out⟩
      have h3 : 4 < st := by omega
      go_wp2_with fail
      go_ret
      exact ⟨rfl, HBW.out⟩
    have HF3 : Hid (F = goF (some ⟨ver, st, nm, tk⟩) (L.drop (k + 1))) := Lib.hid (by rw [HF2.out]; exact goF_on HE.out (of_decide_eq_false HD.out) hbad)
    have HT2 : Hid (nm.size ≤ 20 ∧ keyS nm = pkc (some ⟨ver, st, nm, tk⟩)) := Lib.hid ⟨HS20.out, rfl⟩
    have h1 : ¬ ver < 0 := fun h => hbad (Or.inl h)
    have h2 : ¬ st < 1 := fun h => hbad (Or.inr (Or.inl h))
    have h3 : ¬ 4 < st := fun h => hbad (Or.inr (Or.inr h))
    clear hbad
    go_wp2_with fail
    go_roundw
    case rel => exact ⟨k + 1, _, _, by omega, by go_num, rfl, rfl, HT2, HF3, HBW.out⟩
    case measure => simp [intOf]; omega
end Go.Proofs.Ytcljeedmiobepaa.Nod
