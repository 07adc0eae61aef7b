/-
  The walk of claim.Merge.
-/
import Derived.Test.YtcljeedmiobepaaClOwn
import Derived.Test.YtcljeedmiobepaaClm1
namespace Go.Proofs.Ytcljeedmiobepaa.Nod
open Go.RowKit Go.Gh
set_option linter.unusedVariables false
def Good (A : List Cl) : Prop := ∀ c ∈ A, c.nm.size ≤ 20 ∧ c.tk.length ≤ 20
theorem good_of {L : List Cl} (h : claimsF L = 0) : Good L := fun c hc => by
  have := node_zero ((claims_zero h).2.1 c hc).1
  exact ⟨this.2.1, this.2.2.1⟩
noncomputable def clMerge (a b : List Cl) : List Cl × Int := if claimsF a = 0 then if claimsF b = 0 then if 20 < (mrgC a b).length then ([], 2) else (mrgC a b, 0) else ([], claimsF b) else ([], claimsF a)
def ClPost (w : World) (r : List Cl × Int) (e : Ending) (w' : World) : Prop := ∃ v', e = .returned (.tuple #[v', .int .i64 r.2]) ∧ Ow (ClB 27 w.heap.size) 4 27 w.heap.size w' v' r.1 ∧ Below w.heap.size w w'
theorem clPost_nil {w w' : World} {c : Int} {r : List Cl × Int} (h : r = ([], c)) (hb : Below w.heap.size w w') : ClPost w r (.returned (.tuple #[.slice none 0 0, .int .i64 c])) w' := by
  subst h
  exact ⟨_, rfl, Ow.nil, hb⟩
def tA : List Cl → List Cl → Bool
  | _, [] => true
  | [], _ :: _ => false
  | x :: _, y :: _ => decide (kc x < kc y)
def tB : List Cl → List Cl → Bool
  | [], _ => true
  | _ :: _, [] => false
  | x :: _, y :: _ => decide (kc y < kc x)
def lenOf : Value → Nat
  | .slice _ n _ => n
  | _ => 0
theorem mrgC_a {x : Cl} {A B acc : List Cl} {m : List Cl} (h : m = acc ++ mrgC (x :: A) B) (hlt : ∀ y B', B = y :: B' → kc x < kc y) : m = (acc ++ [x]) ++ mrgC A B := by
  rw [h]
  cases B with
  | nil => unfold mrgC; rw [mrgG_nil, mrgG_nil]; simp
  | cons y B' => unfold mrgC; rw [mrgG_lt (hlt y B' rfl)]; simp
theorem mrgC_b {y : Cl} {A B acc : List Cl} {m : List Cl} (h : m = acc ++ mrgC A (y :: B)) (hlt : ∀ x A', A = x :: A' → kc y < kc x) : m = (acc ++ [y]) ++ mrgC A B := by
  rw [h]
  cases A with
  | nil => unfold mrgC; rw [mrgG_nil', mrgG_nil']; simp
  | cons x A' => unfold mrgC; rw [mrgG_gt (hlt x A' rfl)]; simp
theorem mrgC_ab {x y : Cl} {A B acc : List Cl} {m : List Cl} (h : m = acc ++ mrgC (x :: A) (y :: B)) (he : kc x = kc y) : m = (acc ++ [newC x y]) ++ mrgC A B := by
  rw [h]
  unfold mrgC
  rw [mrgG_eq he]
  simp
/-- One claim more in a row of the call's own, behind 'own' and an append. -/
theorem cl_snoc {B r n : Nat} {w w1 w2 : World} {v v' t : Value} {acc : List Cl} {x : Cl} {P : List (Cl × List Value)} (h1 : P.map (·.1) = acc) (h2 : PK 4 P) (h3 : ∀ p ∈ P, ClB 27 B w p.1 p.2) (hb : Below w.heap.size w w1) (ho : w1.ownsRow B 27 4 v r (pc P)) (hl : acc.length = r) (hown : w1.ownsRow n 99 1 t x.tk.length (x.tk.map (Value.int .u64))) (hwf : ∀ z ∈ x.tk, (Lit.int .u64 z).wf = true)
    (hg : w1.grownBy w2 v.ownBlock) (ho2 : w2.ownsRow B 27 4 v' (r + 1) (pc P ++ [.int .i64 x.ver, .int .i64 x.st, .string x.nm, t])) : Ow (ClB 27 B) 4 27 B w2 v' (acc ++ [x]) :=
  Ow.snoc clB_grow h1 h2 (fun p hp => clB_mono _ _ _ _ (h3 p hp) hb) ho hl.symm hg ho2 rfl ⟨t, rfl, ⟨own_sl hown, hwf⟩, ApU.own hown⟩

set_option maxHeartbeats 8000000 in
set_option maxRecDepth 100000 in
theorem clmerge_any (v u : Value) (L K : List Cl) (w : World) (hs : Sp ClR 4 w v L) (ht : Sp ClR 4 w u K) : Calls Try.prog 15 #[v, u] w (ClPost w (clMerge L K)) := by
  obtain ⟨ao, c, rfl, hnc, hc⟩ := hs.shape
  obtain ⟨bo, d, rfl, hod, hd⟩ := ht.shape
  obtain ⟨n, hn⟩ : ∃ n, L.length = n := ⟨_, rfl⟩
  obtain ⟨o, ho⟩ : ∃ o, K.length = o := ⟨_, rfl⟩
  rw [hn] at hs hnc ⊢
  rw [ho] at ht hod ⊢
  have HL := Lib.hid hn
  have HM := Lib.hid ho
  have HS := Lib.hid hs
  have HT := Lib.hid ht
  obtain ⟨e1, he1⟩ : ∃ e, claimsF L = e := ⟨_, rfl⟩
  obtain ⟨e2, he2⟩ : ∃ e, claimsF K = e := ⟨_, rfl⟩
  have HE1 := Lib.hid he1
  have HE2 := Lib.hid he2
  obtain ⟨R, hR⟩ : ∃ R, clMerge L K = R := ⟨_, rfl⟩
  rw [hR]
  have HR := Lib.hid hR
  clear hn ho he1 he2 hR hs ht
  go_enter Try.func15, Try.ntmps15
  go_wp2_with fail
  obtain ⟨wA, hwA⟩ : ∃ wA, wA = w.alloc (Obj.cells #[.slice ao n c, .slice bo o d] 22) := ⟨_, rfl⟩
  have hA0 : wA.cell? ⟨w.heap.size, 0, none⟩ = some (.slice ao n c) := by rw [hwA]; exact cell_new w _ [_, _] 0 _ rfl
  have hA1 : wA.cell? ⟨w.heap.size, 1, none⟩ = some (.slice bo o d) := by rw [hwA]; exact cell_new w _ [_, _] 1 _ rfl
  have hAs : wA.heap.size = w.heap.size + 1 := by rw [hwA]; simp
  have hAb : Below w.heap.size w wA := by rw [hwA]; exact (Below.refl _ _).alloc (Nat.le_refl _) _
  rw [← hwA]
  have HAS := Lib.hid hAs
  clear hwA hAs
  go_loopw [15] (fun i wr => ∃ k : Int, (k = 0 ∨ k = 1 ∨ k = 2) ∧ i = .int .i64 k ∧ Below wA.heap.size wA wr ∧ Hid ((1 ≤ k → e1 = 0) ∧ (2 ≤ k → e2 = 0))) (fun i _ => (3 - intOf i).toNat)
  case atStart => exact ⟨0, Or.inl rfl, rfl, Below.refl _ _, Lib.hid ⟨fun h => by omega, fun h => by omega⟩⟩
  case round =>
    obtain ⟨k, hk, rfl, hbr, hdone⟩ := hrel
    have hBw : Below w.heap.size w wr := hAb.trans (hbr.mono (by rw [HAS.out]; omega))
    have HSr := Lib.hid (HS.out.below clR_mono hBw)
    have HTr := Lib.hid (HT.out.below clR_mono hBw)
    have a0 : wr.cell? ⟨w.heap.size, 0, none⟩ = some (.slice ao n c) := (hbr.cell (p := ⟨w.heap.size, 0, none⟩) (by show w.heap.size < wA.heap.size; rw [HAS.out]; omega)).trans hA0
    have a1 : wr.cell? ⟨w.heap.size, 1, none⟩ = some (.slice bo o d) := (hbr.cell (p := ⟨w.heap.size, 1, none⟩) (by show w.heap.size < wA.heap.size; rw [HAS.out]; omega)).trans hA1
    rcases hk with rfl | rfl | rfl
    · by_cases hz : e1 = 0
      · have HN : Hid ((1 ≤ (1 : Int) → e1 = 0) ∧ (2 ≤ (1 : Int) → e2 = 0)) := Lib.hid ⟨fun _ => hz, fun h => by omega⟩
        have t1 : (e1 != 0) = false := by rw [hz]; rfl
        clear hz
        go_wp2_with (go_at_call 20; refine (clcheck_any _ L _ HSr.out).mono ?_; rw [HE1.out]; rintro e w1 ⟨rfl, hb1⟩)
        go_roundw
        case rel => exact ⟨1, Or.inr (Or.inl rfl), rfl, hbr.trans (hb1.mono hbr.size), HN⟩
        case measure => simp [intOf]
      · have HF : Hid (R = ([], e1)) := Lib.hid (by
          rw [← HR.out]
          unfold clMerge
          rw [HE1.out, if_neg hz])
        have t1 : (e1 != 0) = true := by rw [bne_iff_ne]; exact hz
        clear hz
        go_wp2_with (go_at_call 20; refine (clcheck_any _ L _ HSr.out).mono ?_; rw [HE1.out]; rintro e w1 ⟨rfl, hb1⟩)
        go_ret2
        exact clPost_nil HF.out (hBw.trans (hb1.mono hBw.size))
    · by_cases hz : e2 = 0
      · have HN : Hid ((1 ≤ (2 : Int) → e1 = 0) ∧ (2 ≤ (2 : Int) → e2 = 0)) := Lib.hid ⟨fun _ => hdone.out.1 (by omega), fun _ => hz⟩
        have t1 : (e2 != 0) = false := by rw [hz]; rfl
        clear hz
        go_wp2_with (go_at_call 20; refine (clcheck_any _ K _ HTr.out).mono ?_; rw [HE2.out]; rintro e w1 ⟨rfl, hb1⟩)
        go_roundw
        case rel => exact ⟨2, Or.inr (Or.inr rfl), rfl, hbr.trans (hb1.mono hbr.size), HN⟩
        case measure => simp [intOf]
      · have HF : Hid (R = ([], e2)) := Lib.hid (by
          rw [← HR.out]
          unfold clMerge
          rw [HE1.out, if_pos (hdone.out.1 (by omega)), HE2.out, if_neg hz])
        have t1 : (e2 != 0) = true := by rw [bne_iff_ne]; exact hz
        clear hz
        go_wp2_with (go_at_call 20; refine (clcheck_any _ K _ HTr.out).mono ?_; rw [HE2.out]; rintro e w1 ⟨rfl, hb1⟩)
        go_ret2
        exact clPost_nil HF.out (hBw.trans (hb1.mono hBw.size))
    have hz1 := hdone.out.1 (by omega)
    have hz2 := hdone.out.2 (by omega)
    have hn2 : n ≤ 20 := by have := (claims_zero (HE1.out.trans hz1)).1; rw [HL.out] at this; exact this
    have ho2 : o ≤ 20 := by have := (claims_zero (HE2.out.trans hz2)).1; rw [HM.out] at this; exact this
    have HGL := Lib.hid (good_of (HE1.out.trans hz1))
    have HGK := Lib.hid (good_of (HE2.out.trans hz2))
    obtain ⟨M, hM⟩ : ∃ M, mrgC L K = M := ⟨_, rfl⟩
    have HRM : Hid (R = if 20 < M.length then ([], 2) else (M, 0)) := Lib.hid (by
      rw [← HR.out]
      unfold clMerge
      rw [HE1.out, if_pos hz1, HE2.out, if_pos hz2, hM])
    have HMM := Lib.hid hM
    clear hz1 hz2 hdone a0 a1 hM HSr HTr
    go_wp2_with fail
    obtain ⟨wo, rfl⟩ : ∃ wo : World, wo = wr := ⟨_, rfl⟩
    go_loopw [0, 1, 9] (fun ua ub u wr => ∃ (p q r : Nat) (A B acc : List Cl), p + q + r ≤ 40 ∧ Hid (A.length = p) ∧ Hid (B.length = q) ∧ Hid (acc.length = r) ∧ Hid (Sp ClR 4 w ua A) ∧ Hid (Sp ClR 4 w ub B) ∧ Hid (Ow (ClB 27 w.heap.size) 4 27 w.heap.size wr u acc) ∧ Below w.heap.size w wr ∧ Hid (M = acc ++ mrgC A B) ∧ Hid (Good A) ∧ Hid (Good B)) (fun ua ub _ _ => lenOf ua + lenOf ub)
    case atStart => exact ⟨n, o, 0, L, K, [], by omega, HL, HM, Lib.hid rfl, HS, HT, Lib.hid Ow.nil, hBw, Lib.hid (by rw [HMM.out]; rfl), HGL, HGK⟩
    case round =>
      obtain ⟨p, q, r, A, B, acc, hpq, HLA, HLB, HLC, HA, HB, HO, hbel, HF, HGA, HGB⟩ := hrel
      have hsz := hbel.size
      obtain ⟨la, lc, rfl, hl1, hl2⟩ := Sp.shapeN HA.out HLA.out
      obtain ⟨lb, ld, rfl, hm1, hm2⟩ := Sp.shapeN HB.out HLB.out
      obtain ⟨uo, uc, rfl, hu1, hu2⟩ := Sp.shapeN HO.out.sp HLC.out
      obtain ⟨P, hP1, hP2, hP3, hP4⟩ := HO.out
      rw [HLC.out] at hP4
      have HP := Lib.hid (And.intro hP1 (And.intro hP2 hP3))
      have HOW := Lib.hid hP4
      clear hP1 hP2 hP3 hP4
      by_cases hpq0 : p = 0 ∧ q = 0
      · obtain ⟨rfl, rfl⟩ := hpq0
        have hf := HF.out
        have ha : A = [] := List.length_eq_zero_iff.1 HLA.out
        have hb : B = [] := List.length_eq_zero_iff.1 HLB.out
        subst ha
        subst hb
        have hmr : mrgC [] [] = [] := mrgG_nil []
        rw [hmr, List.append_nil] at hf
        subst hf
        by_cases hbig : 20 < r
        · have HRES : Hid (R = ([], 2)) := Lib.hid (by rw [HRM.out, if_pos (by rw [HLC.out]; exact hbig)])
          clear hmr
          go_wp2_with fail
          go_ret2
          exact clPost_nil HRES.out hbel
        · have HRES : Hid (R = (M, 0)) := Lib.hid (by rw [HRM.out, if_neg (by rw [HLC.out]; exact hbig)])
          clear hmr
          go_wp2_with fail
          go_ret2
          rw [HRES.out]
          exact ⟨_, rfl, HO.out, hbel⟩

      by_cases hq0 : q = 0
      · subst hq0
        have hB0 : B = [] := List.length_eq_zero_iff.1 HLB.out
        have hp0 : ¬ p = 0 := fun h => hpq0 ⟨h, rfl⟩
        clear hpq0
        subst hB0
        obtain ⟨p, rfl⟩ : ∃ j, p = j + 1 := ⟨p - 1, by omega⟩
        obtain ⟨x, A', rfl, hAl⟩ := cons_of' HLA.out
        have HLA' := Lib.hid hAl
        obtain ⟨xg1, xg2⟩ := HGA.out x (by simp)
        have HGA' : Hid (Good A') := Lib.hid (fun c hc => HGA.out c (by simp [hc]))
        obtain ⟨b1, off1, cs1, rfl, ⟨tx, rfl, htx⟩, _, hck1⟩ := HA.out.headN
        have HTx := Lib.hid htx
        have wx0 := hck1 0 _ rfl
        have wx1 := hck1 1 _ rfl
        have wx2 := hck1 2 _ rfl
        have wx3 := hck1 3 _ rfl
        rw [Nat.add_zero] at wx0
        have ltx := cell_lt wx0
        have HxC : Hid (w.cell? ⟨b1, off1, none⟩ = some (.int .i64 x.ver) ∧ w.cell? ⟨b1, off1 + 1, none⟩ = some (.int .i64 x.st) ∧ w.cell? ⟨b1, off1 + 2, none⟩ = some (.string x.nm) ∧ w.cell? ⟨b1, off1 + 3, none⟩ = some tx) := Lib.hid ⟨wx0, wx1, wx2, wx3⟩
        have x2 : wr.cell? ⟨b1, off1 + 2, none⟩ = some (.string x.nm) := (hbel.cell (p := ⟨b1, off1 + 2, none⟩) ltx).trans wx2
        obtain ⟨Tx1, Tx2⟩ := HA.out.tail
        clear hck1 htx wx0 wx1 wx2 wx3 hAl
        have ix : (0 : Int) < ((p + 1 : Nat) : Int) := by omega
        have kx : (1 : Int) ≤ (p : Int) + 1 := by omega
        have jx : (((p + 1 : Nat) : Int) == 0) = false := beq_eq_false_iff_ne.2 (by omega)
        have jx' : ((p : Int) + 1 == 0) = false := beq_eq_false_iff_ne.2 (by omega)
        have lx : decide ((0 : Int) < (p : Int) + 1) = true := decide_eq_true (by omega)
        have HF2 : Hid (M = (acc ++ [x]) ++ mrgC A' []) := Lib.hid (mrgC_a HF.out (fun y B' h => by simp at h))
        go_wp2_with fail
        go_quiet (fail)
        go_wp2_with fail
        refine wp_abs (fun wx => Below wr.heap.size wr wx) (by first | exact below_drewN (Below.refl _ _) _ | exact below_drewN (below_drewN (Below.refl _ _) _) _) ?_
        intro wB hbB
        have hBB : Below w.heap.size w wB := hbel.trans (hbB.mono hsz)
        have hdr : Below wB.heap.size wB wB.drew := (Below.refl _ _).drew
        have hsB : w.heap.size ≤ wB.drew.heap.size := hBB.size
        have HBB : Hid (Below w.heap.size w wB.drew) := Lib.hid hBB.drew
        have HOB : Hid (wB.drew.ownsRow w.heap.size 27 4 (.slice uo r uc) r (pc P)) := Lib.hid (own_below (own_below HOW.out hbB) hdr)
        have HPB : Hid (∀ p ∈ P, ClB 27 w.heap.size wB.drew p.1 p.2) := Lib.hid (fun p hp => clB_mono _ _ _ _ (clB_mono _ _ _ _ (HP.out.2.2 p hp) hbB) hdr)
        have HVB : Hid (ClV wB.drew (.agg #[.int .i64 x.ver, .int .i64 x.st, .string x.nm, tx]) x) := Lib.hid ⟨_, rfl, (HTx.out.below hBB).below hdr⟩
        obtain ⟨w0, w1, w2, w3⟩ := HxC.out
        have y0 := (hBB.cell (p := ⟨b1, off1, none⟩) ltx).trans w0
        have y1 := (hBB.cell (p := ⟨b1, off1 + 1, none⟩) ltx).trans w1
        have y2 := (hBB.cell (p := ⟨b1, off1 + 2, none⟩) ltx).trans w2
        have y3 := (hBB.cell (p := ⟨b1, off1 + 3, none⟩) ltx).trans w3
        obtain ⟨ta, tc, rfl, -, -, -⟩ := HTx.out.1.shape
        clear hBB hdr hbB w0 w1 w2 w3
        by_cases hcap : lc = 1
        · have HTL := Lib.hid (Tx1 hcap)
          subst hcap
          obtain rfl : p = 0 := by omega
          clear Tx1 Tx2
          go_region_held3 (fun w' => w'.cell? ⟨b1, off1, none⟩ = some (.int .i64 x.ver) ∧ w'.cell? ⟨b1, off1 + 1, none⟩ = some (.int .i64 x.st) ∧ w'.cell? ⟨b1, off1 + 2, none⟩ = some (.string x.nm) ∧ w'.cell? ⟨b1, off1 + 3, none⟩ = some (.slice ta x.tk.length tc)) (first | (with_reducible exact ⟨y0, y1, y2, y3⟩) | (with_reducible exact ⟨z0, z1, z2, z3⟩) | (with_reducible exact ⟨r0, r1, r2, r3⟩) | go_keep) (first
            | (go_at_call 102; refine (own_any _ x _ HVB.out (by omega)).mono ?_; rintro e w2 ⟨t', rfl, hown2, hb2⟩; obtain ⟨ro, rc, rfl, -, -, -⟩ := own_shape hown2; have z0 := (hb2.cell (p := ⟨b1, off1, none⟩) (cell_lt y0)).trans y0; have z1 := (hb2.cell (p := ⟨b1, off1 + 1, none⟩) (cell_lt y0)).trans y1; have z2 := (hb2.cell (p := ⟨b1, off1 + 2, none⟩) (cell_lt y0)).trans y2; have z3 := (hb2.cell (p := ⟨b1, off1 + 3, none⟩) (cell_lt y0)).trans y3; have HO2 := Lib.hid (own_below HOB.out hb2); have HT2 := Lib.hid hown2; have HB2 := Lib.hid hb2; have HBW2 := Lib.hid (HBB.out.trans (hb2.mono hsB)))
            | (refine step_app1 [.int .i64 x.ver, .int .i64 x.st, .string x.nm, .slice ro x.tk.length rc] elCl rfl _ _ rfl HO2.out HBW2.out (Nat.le_refl _) HBW2.out.size rfl rfl rfl (by intro x hx; simp at hx; rcases hx with rfl | rfl | rfl | rfl <;> rfl) (by omega) (by omega) ?_; intro g cap w3 hown3 hbel3 hgr3; have r0 := grown_cell HO2.out hgr3 ltx z0; have r1 := grown_cell HO2.out hgr3 ltx z1; have r2 := grown_cell HO2.out hgr3 ltx z2; have r3 := grown_cell HO2.out hgr3 ltx z3; have HON : Hid (Ow (ClB 27 w.heap.size) 4 27 w.heap.size w3 _ (acc ++ [x])) := Lib.hid (cl_snoc HP.out.1 HP.out.2.1 HPB.out HB2.out HO2.out HLC.out HT2.out HTx.out.2 hgr3 hown3); have HBN := Lib.hid hbel3))
          all_goals
            have HLN : Hid ((acc ++ [x]).length = r + 1) := Lib.hid (by rw [List.length_append, HLC.out]; rfl)
            go_wp2_with fail
            go_roundw
            case rel => exact ⟨0, 0, _, A', [], _, by omega, HLA', HLB, HLN, HTL, HB, HON, HBN.out, HF2, HGA', HGB⟩
            case measure => first | (simp [lenOf]; done) | (simp [lenOf]; omega)
        · have HTL := Lib.hid (Tx2 hcap)
          clear Tx1 Tx2
          go_region_held3 (fun w' => w'.cell? ⟨b1, off1, none⟩ = some (.int .i64 x.ver) ∧ w'.cell? ⟨b1, off1 + 1, none⟩ = some (.int .i64 x.st) ∧ w'.cell? ⟨b1, off1 + 2, none⟩ = some (.string x.nm) ∧ w'.cell? ⟨b1, off1 + 3, none⟩ = some (.slice ta x.tk.length tc)) (first | (with_reducible exact ⟨y0, y1, y2, y3⟩) | (with_reducible exact ⟨z0, z1, z2, z3⟩) | (with_reducible exact ⟨r0, r1, r2, r3⟩) | go_keep) (first
            | (go_at_call 102; refine (own_any _ x _ HVB.out (by omega)).mono ?_; rintro e w2 ⟨t', rfl, hown2, hb2⟩; obtain ⟨ro, rc, rfl, -, -, -⟩ := own_shape hown2; have z0 := (hb2.cell (p := ⟨b1, off1, none⟩) (cell_lt y0)).trans y0; have z1 := (hb2.cell (p := ⟨b1, off1 + 1, none⟩) (cell_lt y0)).trans y1; have z2 := (hb2.cell (p := ⟨b1, off1 + 2, none⟩) (cell_lt y0)).trans y2; have z3 := (hb2.cell (p := ⟨b1, off1 + 3, none⟩) (cell_lt y0)).trans y3; have HO2 := Lib.hid (own_below HOB.out hb2); have HT2 := Lib.hid hown2; have HB2 := Lib.hid hb2; have HBW2 := Lib.hid (HBB.out.trans (hb2.mono hsB)))
            | (refine step_app1 [.int .i64 x.ver, .int .i64 x.st, .string x.nm, .slice ro x.tk.length rc] elCl rfl _ _ rfl HO2.out HBW2.out (Nat.le_refl _) HBW2.out.size rfl rfl rfl (by intro x hx; simp at hx; rcases hx with rfl | rfl | rfl | rfl <;> rfl) (by omega) (by omega) ?_; intro g cap w3 hown3 hbel3 hgr3; have r0 := grown_cell HO2.out hgr3 ltx z0; have r1 := grown_cell HO2.out hgr3 ltx z1; have r2 := grown_cell HO2.out hgr3 ltx z2; have r3 := grown_cell HO2.out hgr3 ltx z3; have HON : Hid (Ow (ClB 27 w.heap.size) 4 27 w.heap.size w3 _ (acc ++ [x])) := Lib.hid (cl_snoc HP.out.1 HP.out.2.1 HPB.out HB2.out HO2.out HLC.out HT2.out HTx.out.2 hgr3 hown3); have HBN := Lib.hid hbel3))
          all_goals
            have HLN : Hid ((acc ++ [x]).length = r + 1) := Lib.hid (by rw [List.length_append, HLC.out]; rfl)
            go_wp2_with fail
            go_roundw
            case rel => exact ⟨p, 0, _, A', [], _, by omega, HLA', HLB, HLN, HTL, HB, HON, HBN.out, HF2, HGA', HGB⟩
            case measure => first | (simp [lenOf]; done) | (simp [lenOf]; omega)
      by_cases hp0 : p = 0
      · subst hp0
        have hA0 : A = [] := List.length_eq_zero_iff.1 HLA.out
        clear hpq0
        subst hA0
        obtain ⟨q, rfl⟩ : ∃ j, q = j + 1 := ⟨q - 1, by omega⟩
        obtain ⟨y, B', rfl, hBl⟩ := cons_of' HLB.out
        have HLB' := Lib.hid hBl
        obtain ⟨yg1, yg2⟩ := HGB.out y (by simp)
        have HGB' : Hid (Good B') := Lib.hid (fun c hc => HGB.out c (by simp [hc]))
        obtain ⟨b2, off2, cs2, rfl, ⟨ty, rfl, hty⟩, _, hck2⟩ := HB.out.headN
        have HTy := Lib.hid hty
        have wy0 := hck2 0 _ rfl
        have wy1 := hck2 1 _ rfl
        have wy2 := hck2 2 _ rfl
        have wy3 := hck2 3 _ rfl
        rw [Nat.add_zero] at wy0
        have lty := cell_lt wy0
        have HyC : Hid (w.cell? ⟨b2, off2, none⟩ = some (.int .i64 y.ver) ∧ w.cell? ⟨b2, off2 + 1, none⟩ = some (.int .i64 y.st) ∧ w.cell? ⟨b2, off2 + 2, none⟩ = some (.string y.nm) ∧ w.cell? ⟨b2, off2 + 3, none⟩ = some ty) := Lib.hid ⟨wy0, wy1, wy2, wy3⟩
        have y2 : wr.cell? ⟨b2, off2 + 2, none⟩ = some (.string y.nm) := (hbel.cell (p := ⟨b2, off2 + 2, none⟩) lty).trans wy2
        obtain ⟨Ty1, Ty2⟩ := HB.out.tail
        clear hck2 hty wy0 wy1 wy2 wy3 hBl
        have iy : (0 : Int) < ((q + 1 : Nat) : Int) := by omega
        have ky : (1 : Int) ≤ (q : Int) + 1 := by omega
        have jy : (((q + 1 : Nat) : Int) == 0) = false := beq_eq_false_iff_ne.2 (by omega)
        have jy' : ((q : Int) + 1 == 0) = false := beq_eq_false_iff_ne.2 (by omega)
        have ly : decide ((0 : Int) < (q : Int) + 1) = true := decide_eq_true (by omega)
        have HF2 : Hid (M = (acc ++ [y]) ++ mrgC [] B') := Lib.hid (mrgC_b HF.out (fun x A' h => by simp at h))
        go_wp2_with fail
        go_quiet (fail)
        go_wp2_with fail
        go_quiet (fail)
        go_wp2_with fail
        refine wp_abs (fun wx => Below wr.heap.size wr wx) (by first | exact below_drewN (Below.refl _ _) _ | exact below_drewN (below_drewN (Below.refl _ _) _) _) ?_
        intro wB hbB
        have hBB : Below w.heap.size w wB := hbel.trans (hbB.mono hsz)
        have hdr : Below wB.heap.size wB wB.drew := (Below.refl _ _).drew
        have hsB : w.heap.size ≤ wB.drew.heap.size := hBB.size
        have HBB : Hid (Below w.heap.size w wB.drew) := Lib.hid hBB.drew
        have HOB : Hid (wB.drew.ownsRow w.heap.size 27 4 (.slice uo r uc) r (pc P)) := Lib.hid (own_below (own_below HOW.out hbB) hdr)
        have HPB : Hid (∀ p ∈ P, ClB 27 w.heap.size wB.drew p.1 p.2) := Lib.hid (fun p hp => clB_mono _ _ _ _ (clB_mono _ _ _ _ (HP.out.2.2 p hp) hbB) hdr)
        have HVB : Hid (ClV wB.drew (.agg #[.int .i64 y.ver, .int .i64 y.st, .string y.nm, ty]) y) := Lib.hid ⟨_, rfl, (HTy.out.below hBB).below hdr⟩
        obtain ⟨w0, w1, w2, w3⟩ := HyC.out
        have y0 := (hBB.cell (p := ⟨b2, off2, none⟩) lty).trans w0
        have y1 := (hBB.cell (p := ⟨b2, off2 + 1, none⟩) lty).trans w1
        have y2 := (hBB.cell (p := ⟨b2, off2 + 2, none⟩) lty).trans w2
        have y3 := (hBB.cell (p := ⟨b2, off2 + 3, none⟩) lty).trans w3
        obtain ⟨ta, tc, rfl, -, -, -⟩ := HTy.out.1.shape
        clear hBB hdr hbB w0 w1 w2 w3
        by_cases hcap : ld = 1
        · have HTL := Lib.hid (Ty1 hcap)
          subst hcap
          obtain rfl : q = 0 := by omega
          clear Ty1 Ty2
          go_region_held3 (fun w' => w'.cell? ⟨b2, off2, none⟩ = some (.int .i64 y.ver) ∧ w'.cell? ⟨b2, off2 + 1, none⟩ = some (.int .i64 y.st) ∧ w'.cell? ⟨b2, off2 + 2, none⟩ = some (.string y.nm) ∧ w'.cell? ⟨b2, off2 + 3, none⟩ = some (.slice ta y.tk.length tc)) (first | (with_reducible exact ⟨y0, y1, y2, y3⟩) | (with_reducible exact ⟨z0, z1, z2, z3⟩) | (with_reducible exact ⟨r0, r1, r2, r3⟩) | go_keep) (first
            | (go_at_call 102; refine (own_any _ y _ HVB.out (by omega)).mono ?_; rintro e w2 ⟨t', rfl, hown2, hb2⟩; obtain ⟨ro, rc, rfl, -, -, -⟩ := own_shape hown2; have z0 := (hb2.cell (p := ⟨b2, off2, none⟩) (cell_lt y0)).trans y0; have z1 := (hb2.cell (p := ⟨b2, off2 + 1, none⟩) (cell_lt y0)).trans y1; have z2 := (hb2.cell (p := ⟨b2, off2 + 2, none⟩) (cell_lt y0)).trans y2; have z3 := (hb2.cell (p := ⟨b2, off2 + 3, none⟩) (cell_lt y0)).trans y3; have HO2 := Lib.hid (own_below HOB.out hb2); have HT2 := Lib.hid hown2; have HB2 := Lib.hid hb2; have HBW2 := Lib.hid (HBB.out.trans (hb2.mono hsB)))
            | (refine step_app1 [.int .i64 y.ver, .int .i64 y.st, .string y.nm, .slice ro y.tk.length rc] elCl rfl _ _ rfl HO2.out HBW2.out (Nat.le_refl _) HBW2.out.size rfl rfl rfl (by intro x hx; simp at hx; rcases hx with rfl | rfl | rfl | rfl <;> rfl) (by omega) (by omega) ?_; intro g cap w3 hown3 hbel3 hgr3; have r0 := grown_cell HO2.out hgr3 lty z0; have r1 := grown_cell HO2.out hgr3 lty z1; have r2 := grown_cell HO2.out hgr3 lty z2; have r3 := grown_cell HO2.out hgr3 lty z3; have HON : Hid (Ow (ClB 27 w.heap.size) 4 27 w.heap.size w3 _ (acc ++ [y])) := Lib.hid (cl_snoc HP.out.1 HP.out.2.1 HPB.out HB2.out HO2.out HLC.out HT2.out HTy.out.2 hgr3 hown3); have HBN := Lib.hid hbel3))
          all_goals
            have HLN : Hid ((acc ++ [y]).length = r + 1) := Lib.hid (by rw [List.length_append, HLC.out]; rfl)
            go_wp2_with fail
            go_roundw
            case rel => exact ⟨0, 0, _, [], B', _, by omega, HLA, HLB', HLN, HA, HTL, HON, HBN.out, HF2, HGA, HGB'⟩
            case measure => first | (simp [lenOf]; done) | (simp [lenOf]; omega)
        · have HTL := Lib.hid (Ty2 hcap)
          clear Ty1 Ty2
          go_region_held3 (fun w' => w'.cell? ⟨b2, off2, none⟩ = some (.int .i64 y.ver) ∧ w'.cell? ⟨b2, off2 + 1, none⟩ = some (.int .i64 y.st) ∧ w'.cell? ⟨b2, off2 + 2, none⟩ = some (.string y.nm) ∧ w'.cell? ⟨b2, off2 + 3, none⟩ = some (.slice ta y.tk.length tc)) (first | (with_reducible exact ⟨y0, y1, y2, y3⟩) | (with_reducible exact ⟨z0, z1, z2, z3⟩) | (with_reducible exact ⟨r0, r1, r2, r3⟩) | go_keep) (first
            | (go_at_call 102; refine (own_any _ y _ HVB.out (by omega)).mono ?_; rintro e w2 ⟨t', rfl, hown2, hb2⟩; obtain ⟨ro, rc, rfl, -, -, -⟩ := own_shape hown2; have z0 := (hb2.cell (p := ⟨b2, off2, none⟩) (cell_lt y0)).trans y0; have z1 := (hb2.cell (p := ⟨b2, off2 + 1, none⟩) (cell_lt y0)).trans y1; have z2 := (hb2.cell (p := ⟨b2, off2 + 2, none⟩) (cell_lt y0)).trans y2; have z3 := (hb2.cell (p := ⟨b2, off2 + 3, none⟩) (cell_lt y0)).trans y3; have HO2 := Lib.hid (own_below HOB.out hb2); have HT2 := Lib.hid hown2; have HB2 := Lib.hid hb2; have HBW2 := Lib.hid (HBB.out.trans (hb2.mono hsB)))
            | (refine step_app1 [.int .i64 y.ver, .int .i64 y.st, .string y.nm, .slice ro y.tk.length rc] elCl rfl _ _ rfl HO2.out HBW2.out (Nat.le_refl _) HBW2.out.size rfl rfl rfl (by intro x hx; simp at hx; rcases hx with rfl | rfl | rfl | rfl <;> rfl) (by omega) (by omega) ?_; intro g cap w3 hown3 hbel3 hgr3; have r0 := grown_cell HO2.out hgr3 lty z0; have r1 := grown_cell HO2.out hgr3 lty z1; have r2 := grown_cell HO2.out hgr3 lty z2; have r3 := grown_cell HO2.out hgr3 lty z3; have HON : Hid (Ow (ClB 27 w.heap.size) 4 27 w.heap.size w3 _ (acc ++ [y])) := Lib.hid (cl_snoc HP.out.1 HP.out.2.1 HPB.out HB2.out HO2.out HLC.out HT2.out HTy.out.2 hgr3 hown3); have HBN := Lib.hid hbel3))
          all_goals
            have HLN : Hid ((acc ++ [y]).length = r + 1) := Lib.hid (by rw [List.length_append, HLC.out]; rfl)
            go_wp2_with fail
            go_roundw
            case rel => exact ⟨0, q, _, [], B', _, by omega, HLA, HLB', HLN, HA, HTL, HON, HBN.out, HF2, HGA, HGB'⟩
            case measure => first | (simp [lenOf]; done) | (simp [lenOf]; omega)
      clear hpq0
      obtain ⟨p, rfl⟩ : ∃ j, p = j + 1 := ⟨p - 1, by omega⟩
      obtain ⟨x, A', rfl, hAl⟩ := cons_of' HLA.out
      have HLA' := Lib.hid hAl
      obtain ⟨xg1, xg2⟩ := HGA.out x (by simp)
      have HGA' : Hid (Good A') := Lib.hid (fun c hc => HGA.out c (by simp [hc]))
      obtain ⟨b1, off1, cs1, rfl, ⟨tx, rfl, htx⟩, _, hck1⟩ := HA.out.headN
      have HTx := Lib.hid htx
      have wx0 := hck1 0 _ rfl
      have wx1 := hck1 1 _ rfl
      have wx2 := hck1 2 _ rfl
      have wx3 := hck1 3 _ rfl
      rw [Nat.add_zero] at wx0
      have ltx := cell_lt wx0
      have HxC : Hid (w.cell? ⟨b1, off1, none⟩ = some (.int .i64 x.ver) ∧ w.cell? ⟨b1, off1 + 1, none⟩ = some (.int .i64 x.st) ∧ w.cell? ⟨b1, off1 + 2, none⟩ = some (.string x.nm) ∧ w.cell? ⟨b1, off1 + 3, none⟩ = some tx) := Lib.hid ⟨wx0, wx1, wx2, wx3⟩
      have x2 : wr.cell? ⟨b1, off1 + 2, none⟩ = some (.string x.nm) := (hbel.cell (p := ⟨b1, off1 + 2, none⟩) ltx).trans wx2
      obtain ⟨Tx1, Tx2⟩ := HA.out.tail
      clear hck1 htx wx0 wx1 wx2 wx3 hAl
      have ix : (0 : Int) < ((p + 1 : Nat) : Int) := by omega
      have kx : (1 : Int) ≤ (p : Int) + 1 := by omega
      have jx : (((p + 1 : Nat) : Int) == 0) = false := beq_eq_false_iff_ne.2 (by omega)
      have jx' : ((p : Int) + 1 == 0) = false := beq_eq_false_iff_ne.2 (by omega)
      have lx : decide ((0 : Int) < (p : Int) + 1) = true := decide_eq_true (by omega)
      obtain ⟨q, rfl⟩ : ∃ j, q = j + 1 := ⟨q - 1, by omega⟩
      obtain ⟨y, B', rfl, hBl⟩ := cons_of' HLB.out
      have HLB' := Lib.hid hBl
      obtain ⟨yg1, yg2⟩ := HGB.out y (by simp)
      have HGB' : Hid (Good B') := Lib.hid (fun c hc => HGB.out c (by simp [hc]))
      obtain ⟨b2, off2, cs2, rfl, ⟨ty, rfl, hty⟩, _, hck2⟩ := HB.out.headN
      have HTy := Lib.hid hty
      have wy0 := hck2 0 _ rfl
      have wy1 := hck2 1 _ rfl
      have wy2 := hck2 2 _ rfl
      have wy3 := hck2 3 _ rfl
      rw [Nat.add_zero] at wy0
      have lty := cell_lt wy0
      have HyC : Hid (w.cell? ⟨b2, off2, none⟩ = some (.int .i64 y.ver) ∧ w.cell? ⟨b2, off2 + 1, none⟩ = some (.int .i64 y.st) ∧ w.cell? ⟨b2, off2 + 2, none⟩ = some (.string y.nm) ∧ w.cell? ⟨b2, off2 + 3, none⟩ = some ty) := Lib.hid ⟨wy0, wy1, wy2, wy3⟩
      have y2 : wr.cell? ⟨b2, off2 + 2, none⟩ = some (.string y.nm) := (hbel.cell (p := ⟨b2, off2 + 2, none⟩) lty).trans wy2
      obtain ⟨Ty1, Ty2⟩ := HB.out.tail
      clear hck2 hty wy0 wy1 wy2 wy3 hBl
      have iy : (0 : Int) < ((q + 1 : Nat) : Int) := by omega
      have ky : (1 : Int) ≤ (q : Int) + 1 := by omega
      have jy : (((q + 1 : Nat) : Int) == 0) = false := beq_eq_false_iff_ne.2 (by omega)
      have jy' : ((q : Int) + 1 == 0) = false := beq_eq_false_iff_ne.2 (by omega)
      have ly : decide ((0 : Int) < (q : Int) + 1) = true := decide_eq_true (by omega)
      have hl1 := keyS_less (s := x.nm) (t := y.nm) xg1 yg1
      have hl2 := keyS_less (s := y.nm) (t := x.nm) yg1 xg1
      generalize hb1 : Op.bytesLess x.nm.toList y.nm.toList = b1' at *
      generalize hb2 : Op.bytesLess y.nm.toList x.nm.toList = b2' at *
      rcases Int.lt_trichotomy (kc x) (kc y) with hlt | hlt | hlt
      · obtain rfl : b1' = true := by rw [hl1]; exact decide_eq_true hlt
        have HF2 : Hid (M = (acc ++ [x]) ++ mrgC A' (y :: B')) := Lib.hid (mrgC_a HF.out (fun y' B'' h => by injection h with h1 _; rw [← h1]; exact hlt))
        clear hl1 hl2 hlt
        go_wp2_with fail
        go_quiet (fail)
        go_wp2_with fail
        refine wp_abs (fun wx => Below wr.heap.size wr wx) (by first | exact below_drewN (Below.refl _ _) _ | exact below_drewN (below_drewN (Below.refl _ _) _) _) ?_
        intro wB hbB
        have hBB : Below w.heap.size w wB := hbel.trans (hbB.mono hsz)
        have hdr : Below wB.heap.size wB wB.drew := (Below.refl _ _).drew
        have hsB : w.heap.size ≤ wB.drew.heap.size := hBB.size
        have HBB : Hid (Below w.heap.size w wB.drew) := Lib.hid hBB.drew
        have HOB : Hid (wB.drew.ownsRow w.heap.size 27 4 (.slice uo r uc) r (pc P)) := Lib.hid (own_below (own_below HOW.out hbB) hdr)
        have HPB : Hid (∀ p ∈ P, ClB 27 w.heap.size wB.drew p.1 p.2) := Lib.hid (fun p hp => clB_mono _ _ _ _ (clB_mono _ _ _ _ (HP.out.2.2 p hp) hbB) hdr)
        have HVB : Hid (ClV wB.drew (.agg #[.int .i64 x.ver, .int .i64 x.st, .string x.nm, tx]) x) := Lib.hid ⟨_, rfl, (HTx.out.below hBB).below hdr⟩
        obtain ⟨w0, w1, w2, w3⟩ := HxC.out
        have y0 := (hBB.cell (p := ⟨b1, off1, none⟩) ltx).trans w0
        have y1 := (hBB.cell (p := ⟨b1, off1 + 1, none⟩) ltx).trans w1
        have y2 := (hBB.cell (p := ⟨b1, off1 + 2, none⟩) ltx).trans w2
        have y3 := (hBB.cell (p := ⟨b1, off1 + 3, none⟩) ltx).trans w3
        obtain ⟨ta, tc, rfl, -, -, -⟩ := HTx.out.1.shape
        clear hBB hdr hbB w0 w1 w2 w3
        by_cases hcap : lc = 1
        · have HTL := Lib.hid (Tx1 hcap)
          subst hcap
          obtain rfl : p = 0 := by omega
          clear Tx1 Tx2
          go_region_held3 (fun w' => w'.cell? ⟨b1, off1, none⟩ = some (.int .i64 x.ver) ∧ w'.cell? ⟨b1, off1 + 1, none⟩ = some (.int .i64 x.st) ∧ w'.cell? ⟨b1, off1 + 2, none⟩ = some (.string x.nm) ∧ w'.cell? ⟨b1, off1 + 3, none⟩ = some (.slice ta x.tk.length tc)) (first | (with_reducible exact ⟨y0, y1, y2, y3⟩) | (with_reducible exact ⟨z0, z1, z2, z3⟩) | (with_reducible exact ⟨r0, r1, r2, r3⟩) | go_keep) (first
            | (go_at_call 102; refine (own_any _ x _ HVB.out (by omega)).mono ?_; rintro e w2 ⟨t', rfl, hown2, hb2⟩; obtain ⟨ro, rc, rfl, -, -, -⟩ := own_shape hown2; have z0 := (hb2.cell (p := ⟨b1, off1, none⟩) (cell_lt y0)).trans y0; have z1 := (hb2.cell (p := ⟨b1, off1 + 1, none⟩) (cell_lt y0)).trans y1; have z2 := (hb2.cell (p := ⟨b1, off1 + 2, none⟩) (cell_lt y0)).trans y2; have z3 := (hb2.cell (p := ⟨b1, off1 + 3, none⟩) (cell_lt y0)).trans y3; have HO2 := Lib.hid (own_below HOB.out hb2); have HT2 := Lib.hid hown2; have HB2 := Lib.hid hb2; have HBW2 := Lib.hid (HBB.out.trans (hb2.mono hsB)))
            | (refine step_app1 [.int .i64 x.ver, .int .i64 x.st, .string x.nm, .slice ro x.tk.length rc] elCl rfl _ _ rfl HO2.out HBW2.out (Nat.le_refl _) HBW2.out.size rfl rfl rfl (by intro x hx; simp at hx; rcases hx with rfl | rfl | rfl | rfl <;> rfl) (by omega) (by omega) ?_; intro g cap w3 hown3 hbel3 hgr3; have r0 := grown_cell HO2.out hgr3 ltx z0; have r1 := grown_cell HO2.out hgr3 ltx z1; have r2 := grown_cell HO2.out hgr3 ltx z2; have r3 := grown_cell HO2.out hgr3 ltx z3; have HON : Hid (Ow (ClB 27 w.heap.size) 4 27 w.heap.size w3 _ (acc ++ [x])) := Lib.hid (cl_snoc HP.out.1 HP.out.2.1 HPB.out HB2.out HO2.out HLC.out HT2.out HTx.out.2 hgr3 hown3); have HBN := Lib.hid hbel3))
          all_goals
            have HLN : Hid ((acc ++ [x]).length = r + 1) := Lib.hid (by rw [List.length_append, HLC.out]; rfl)
            go_wp2_with fail
            go_roundw
            case rel => exact ⟨0, _, _, A', y :: B', _, by omega, HLA', HLB, HLN, HTL, HB, HON, HBN.out, HF2, HGA', HGB⟩
            case measure => first | (simp [lenOf]; done) | (simp [lenOf]; omega)
        · have HTL := Lib.hid (Tx2 hcap)
          clear Tx1 Tx2
          go_region_held3 (fun w' => w'.cell? ⟨b1, off1, none⟩ = some (.int .i64 x.ver) ∧ w'.cell? ⟨b1, off1 + 1, none⟩ = some (.int .i64 x.st) ∧ w'.cell? ⟨b1, off1 + 2, none⟩ = some (.string x.nm) ∧ w'.cell? ⟨b1, off1 + 3, none⟩ = some (.slice ta x.tk.length tc)) (first | (with_reducible exact ⟨y0, y1, y2, y3⟩) | (with_reducible exact ⟨z0, z1, z2, z3⟩) | (with_reducible exact ⟨r0, r1, r2, r3⟩) | go_keep) (first
            | (go_at_call 102; refine (own_any _ x _ HVB.out (by omega)).mono ?_; rintro e w2 ⟨t', rfl, hown2, hb2⟩; obtain ⟨ro, rc, rfl, -, -, -⟩ := own_shape hown2; have z0 := (hb2.cell (p := ⟨b1, off1, none⟩) (cell_lt y0)).trans y0; have z1 := (hb2.cell (p := ⟨b1, off1 + 1, none⟩) (cell_lt y0)).trans y1; have z2 := (hb2.cell (p := ⟨b1, off1 + 2, none⟩) (cell_lt y0)).trans y2; have z3 := (hb2.cell (p := ⟨b1, off1 + 3, none⟩) (cell_lt y0)).trans y3; have HO2 := Lib.hid (own_below HOB.out hb2); have HT2 := Lib.hid hown2; have HB2 := Lib.hid hb2; have HBW2 := Lib.hid (HBB.out.trans (hb2.mono hsB)))
            | (refine step_app1 [.int .i64 x.ver, .int .i64 x.st, .string x.nm, .slice ro x.tk.length rc] elCl rfl _ _ rfl HO2.out HBW2.out (Nat.le_refl _) HBW2.out.size rfl rfl rfl (by intro x hx; simp at hx; rcases hx with rfl | rfl | rfl | rfl <;> rfl) (by omega) (by omega) ?_; intro g cap w3 hown3 hbel3 hgr3; have r0 := grown_cell HO2.out hgr3 ltx z0; have r1 := grown_cell HO2.out hgr3 ltx z1; have r2 := grown_cell HO2.out hgr3 ltx z2; have r3 := grown_cell HO2.out hgr3 ltx z3; have HON : Hid (Ow (ClB 27 w.heap.size) 4 27 w.heap.size w3 _ (acc ++ [x])) := Lib.hid (cl_snoc HP.out.1 HP.out.2.1 HPB.out HB2.out HO2.out HLC.out HT2.out HTx.out.2 hgr3 hown3); have HBN := Lib.hid hbel3))
          all_goals
            have HLN : Hid ((acc ++ [x]).length = r + 1) := Lib.hid (by rw [List.length_append, HLC.out]; rfl)
            go_wp2_with fail
            go_roundw
            case rel => exact ⟨p, _, _, A', y :: B', _, by omega, HLA', HLB, HLN, HTL, HB, HON, HBN.out, HF2, HGA', HGB⟩
            case measure => first | (simp [lenOf]; done) | (simp [lenOf]; omega)
      rotate_left
      · obtain rfl : b1' = false := by rw [hl1]; exact decide_eq_false (by unfold kc at hlt; omega)
        obtain rfl : b2' = true := by rw [hl2]; exact decide_eq_true hlt
        have HF2 : Hid (M = (acc ++ [y]) ++ mrgC (x :: A') B') := Lib.hid (mrgC_b HF.out (fun x' A'' h => by injection h with h1 _; rw [← h1]; exact hlt))
        clear hl1 hl2 hlt
        go_wp2_with fail
        go_quiet (fail)
        go_wp2_with fail
        go_quiet (fail)
        go_wp2_with fail
        refine wp_abs (fun wx => Below wr.heap.size wr wx) (by first | exact below_drewN (Below.refl _ _) _ | exact below_drewN (below_drewN (Below.refl _ _) _) _) ?_
        intro wB hbB
        have hBB : Below w.heap.size w wB := hbel.trans (hbB.mono hsz)
        have hdr : Below wB.heap.size wB wB.drew := (Below.refl _ _).drew
        have hsB : w.heap.size ≤ wB.drew.heap.size := hBB.size
        have HBB : Hid (Below w.heap.size w wB.drew) := Lib.hid hBB.drew
        have HOB : Hid (wB.drew.ownsRow w.heap.size 27 4 (.slice uo r uc) r (pc P)) := Lib.hid (own_below (own_below HOW.out hbB) hdr)
        have HPB : Hid (∀ p ∈ P, ClB 27 w.heap.size wB.drew p.1 p.2) := Lib.hid (fun p hp => clB_mono _ _ _ _ (clB_mono _ _ _ _ (HP.out.2.2 p hp) hbB) hdr)
        have HVB : Hid (ClV wB.drew (.agg #[.int .i64 y.ver, .int .i64 y.st, .string y.nm, ty]) y) := Lib.hid ⟨_, rfl, (HTy.out.below hBB).below hdr⟩
        obtain ⟨w0, w1, w2, w3⟩ := HyC.out
        have y0 := (hBB.cell (p := ⟨b2, off2, none⟩) lty).trans w0
        have y1 := (hBB.cell (p := ⟨b2, off2 + 1, none⟩) lty).trans w1
        have y2 := (hBB.cell (p := ⟨b2, off2 + 2, none⟩) lty).trans w2
        have y3 := (hBB.cell (p := ⟨b2, off2 + 3, none⟩) lty).trans w3
        obtain ⟨ta, tc, rfl, -, -, -⟩ := HTy.out.1.shape
        clear hBB hdr hbB w0 w1 w2 w3
        by_cases hcap : ld = 1
        · have HTL := Lib.hid (Ty1 hcap)
          subst hcap
          obtain rfl : q = 0 := by omega
          clear Ty1 Ty2
          go_region_held3 (fun w' => w'.cell? ⟨b2, off2, none⟩ = some (.int .i64 y.ver) ∧ w'.cell? ⟨b2, off2 + 1, none⟩ = some (.int .i64 y.st) ∧ w'.cell? ⟨b2, off2 + 2, none⟩ = some (.string y.nm) ∧ w'.cell? ⟨b2, off2 + 3, none⟩ = some (.slice ta y.tk.length tc)) (first | (with_reducible exact ⟨y0, y1, y2, y3⟩) | (with_reducible exact ⟨z0, z1, z2, z3⟩) | (with_reducible exact ⟨r0, r1, r2, r3⟩) | go_keep) (first
            | (go_at_call 102; refine (own_any _ y _ HVB.out (by omega)).mono ?_; rintro e w2 ⟨t', rfl, hown2, hb2⟩; obtain ⟨ro, rc, rfl, -, -, -⟩ := own_shape hown2; have z0 := (hb2.cell (p := ⟨b2, off2, none⟩) (cell_lt y0)).trans y0; have z1 := (hb2.cell (p := ⟨b2, off2 + 1, none⟩) (cell_lt y0)).trans y1; have z2 := (hb2.cell (p := ⟨b2, off2 + 2, none⟩) (cell_lt y0)).trans y2; have z3 := (hb2.cell (p := ⟨b2, off2 + 3, none⟩) (cell_lt y0)).trans y3; have HO2 := Lib.hid (own_below HOB.out hb2); have HT2 := Lib.hid hown2; have HB2 := Lib.hid hb2; have HBW2 := Lib.hid (HBB.out.trans (hb2.mono hsB)))
            | (refine step_app1 [.int .i64 y.ver, .int .i64 y.st, .string y.nm, .slice ro y.tk.length rc] elCl rfl _ _ rfl HO2.out HBW2.out (Nat.le_refl _) HBW2.out.size rfl rfl rfl (by intro x hx; simp at hx; rcases hx with rfl | rfl | rfl | rfl <;> rfl) (by omega) (by omega) ?_; intro g cap w3 hown3 hbel3 hgr3; have r0 := grown_cell HO2.out hgr3 lty z0; have r1 := grown_cell HO2.out hgr3 lty z1; have r2 := grown_cell HO2.out hgr3 lty z2; have r3 := grown_cell HO2.out hgr3 lty z3; have HON : Hid (Ow (ClB 27 w.heap.size) 4 27 w.heap.size w3 _ (acc ++ [y])) := Lib.hid (cl_snoc HP.out.1 HP.out.2.1 HPB.out HB2.out HO2.out HLC.out HT2.out HTy.out.2 hgr3 hown3); have HBN := Lib.hid hbel3))
          all_goals
            have HLN : Hid ((acc ++ [y]).length = r + 1) := Lib.hid (by rw [List.length_append, HLC.out]; rfl)
            go_wp2_with fail
            go_roundw
            case rel => exact ⟨_, 0, _, x :: A', B', _, by omega, HLA, HLB', HLN, HA, HTL, HON, HBN.out, HF2, HGA, HGB'⟩
            case measure => first | (simp [lenOf]; done) | (simp [lenOf]; omega)
        · have HTL := Lib.hid (Ty2 hcap)
          clear Ty1 Ty2
          go_region_held3 (fun w' => w'.cell? ⟨b2, off2, none⟩ = some (.int .i64 y.ver) ∧ w'.cell? ⟨b2, off2 + 1, none⟩ = some (.int .i64 y.st) ∧ w'.cell? ⟨b2, off2 + 2, none⟩ = some (.string y.nm) ∧ w'.cell? ⟨b2, off2 + 3, none⟩ = some (.slice ta y.tk.length tc)) (first | (with_reducible exact ⟨y0, y1, y2, y3⟩) | (with_reducible exact ⟨z0, z1, z2, z3⟩) | (with_reducible exact ⟨r0, r1, r2, r3⟩) | go_keep) (first
            | (go_at_call 102; refine (own_any _ y _ HVB.out (by omega)).mono ?_; rintro e w2 ⟨t', rfl, hown2, hb2⟩; obtain ⟨ro, rc, rfl, -, -, -⟩ := own_shape hown2; have z0 := (hb2.cell (p := ⟨b2, off2, none⟩) (cell_lt y0)).trans y0; have z1 := (hb2.cell (p := ⟨b2, off2 + 1, none⟩) (cell_lt y0)).trans y1; have z2 := (hb2.cell (p := ⟨b2, off2 + 2, none⟩) (cell_lt y0)).trans y2; have z3 := (hb2.cell (p := ⟨b2, off2 + 3, none⟩) (cell_lt y0)).trans y3; have HO2 := Lib.hid (own_below HOB.out hb2); have HT2 := Lib.hid hown2; have HB2 := Lib.hid hb2; have HBW2 := Lib.hid (HBB.out.trans (hb2.mono hsB)))
            | (refine step_app1 [.int .i64 y.ver, .int .i64 y.st, .string y.nm, .slice ro y.tk.length rc] elCl rfl _ _ rfl HO2.out HBW2.out (Nat.le_refl _) HBW2.out.size rfl rfl rfl (by intro x hx; simp at hx; rcases hx with rfl | rfl | rfl | rfl <;> rfl) (by omega) (by omega) ?_; intro g cap w3 hown3 hbel3 hgr3; have r0 := grown_cell HO2.out hgr3 lty z0; have r1 := grown_cell HO2.out hgr3 lty z1; have r2 := grown_cell HO2.out hgr3 lty z2; have r3 := grown_cell HO2.out hgr3 lty z3; have HON : Hid (Ow (ClB 27 w.heap.size) 4 27 w.heap.size w3 _ (acc ++ [y])) := Lib.hid (cl_snoc HP.out.1 HP.out.2.1 HPB.out HB2.out HO2.out HLC.out HT2.out HTy.out.2 hgr3 hown3); have HBN := Lib.hid hbel3))
          all_goals
            have HLN : Hid ((acc ++ [y]).length = r + 1) := Lib.hid (by rw [List.length_append, HLC.out]; rfl)
            go_wp2_with fail
            go_roundw
            case rel => exact ⟨_, q, _, x :: A', B', _, by omega, HLA, HLB', HLN, HA, HTL, HON, HBN.out, HF2, HGA, HGB'⟩
            case measure => first | (simp [lenOf]; done) | (simp [lenOf]; omega)
      obtain rfl : b1' = false := by rw [hl1]; exact decide_eq_false (by unfold kc at hlt; omega)
      obtain rfl : b2' = false := by rw [hl2]; exact decide_eq_false (by unfold kc at hlt; omega)
      have HF2 : Hid (M = (acc ++ [newC x y]) ++ mrgC A' B') := Lib.hid (mrgC_ab HF.out hlt)
      clear hl1 hl2 hlt
      go_wp2_with fail
      go_quiet (fail)
      go_wp2_with fail
      go_quiet (fail)
      go_upto_region 10 with (fail)
      refine wp_abs (fun wx => Below wr.heap.size wr wx) (below_drewN (below_drewN (Below.refl _ _) _) _) ?_
      intro wB hbB
      have hBB : Below w.heap.size w wB := hbel.trans (hbB.mono hsz)
      have HBB := Lib.hid hBB
      have HOB : Hid (wB.ownsRow w.heap.size 27 4 (.slice uo r uc) r (pc P)) := Lib.hid (own_below HOW.out hbB)
      have HPB : Hid (∀ p ∈ P, ClB 27 w.heap.size wB p.1 p.2) := Lib.hid (fun p hp => clB_mono _ _ _ _ (HP.out.2.2 p hp) hbB)
      obtain ⟨w0, w1, w2, w3⟩ := HxC.out
      have c0 := (hBB.cell (p := ⟨b1, off1, none⟩) ltx).trans w0
      have c1 := (hBB.cell (p := ⟨b1, off1 + 1, none⟩) ltx).trans w1
      have c2 := (hBB.cell (p := ⟨b1, off1 + 2, none⟩) ltx).trans w2
      have c3 := (hBB.cell (p := ⟨b1, off1 + 3, none⟩) ltx).trans w3
      obtain ⟨ta, tc, rfl, -, -, -⟩ := HTx.out.1.shape
      obtain ⟨tb, td, rfl, -, -, -⟩ := HTy.out.1.shape
      clear hbB w0 w1 w2 w3 hBB
      go_upto_region 11 with (fail)
      obtain ⟨wC, hwC⟩ : ∃ wC, wC = wB.alloc (Obj.cells #[.int .i64 x.ver, .int .i64 x.st, .string x.nm, .slice ta x.tk.length tc] 27) := ⟨_, rfl⟩
      have hbox : wC.heap[wB.heap.size]? = some (.cells #[.int .i64 x.ver, .int .i64 x.st, .string x.nm, .slice ta x.tk.length tc] 27 (0, 0)) := by rw [hwC]; exact heap_alloc_new wB _
      have hBC : Below wB.heap.size wB wC := by rw [hwC]; exact (Below.refl _ _).alloc (Nat.le_refl _) _
      rw [← hwC]
      have hsC : wB.heap.size < wC.heap.size := by rw [hwC]; simp
      generalize hbx : wB.heap.size = bx at *
      have HBX := Lib.hid hbx
      have hltb : w.heap.size ≤ bx := by rw [← HBX.out]; exact HBB.out.size
      have hBWC : Below w.heap.size w wC := HBB.out.trans (hBC.mono hltb)
      have HBWC := Lib.hid hBWC
      have HBC := Lib.hid hBC
      have HBOX := Lib.hid hbox
      obtain ⟨⟨d0, d1, d2, d3⟩, -⟩ := bx4 hbox
      obtain ⟨w0, w1, w2, w3⟩ := HyC.out
      have y0 := (hBWC.cell (p := ⟨b2, off2, none⟩) lty).trans w0
      have y1 := (hBWC.cell (p := ⟨b2, off2 + 1, none⟩) lty).trans w1
      have y2' := (hBWC.cell (p := ⟨b2, off2 + 2, none⟩) lty).trans w2
      have y3 := (hBWC.cell (p := ⟨b2, off2 + 3, none⟩) lty).trans w3
      have hdr : Below wC.heap.size wC wC.drew := (Below.refl _ _).drew
      have HVX : Hid (ClV wC.drew (.agg #[.int .i64 x.ver, .int .i64 x.st, .string x.nm, .slice ta x.tk.length tc]) x) := Lib.hid ⟨_, rfl, (HTx.out.below hBWC).below hdr⟩
      have HVY : Hid (ClV wC.drew (.agg #[.int .i64 y.ver, .int .i64 y.st, .string y.nm, .slice tb y.tk.length td]) y) := Lib.hid ⟨_, rfl, (HTy.out.below hBWC).below hdr⟩
      obtain ⟨N, hN⟩ : ∃ N, newerC y x = N := ⟨_, rfl⟩
      have HN := Lib.hid hN
      have HDR := Lib.hid hdr
      clear hwC hbx c0 c1 c2 c3 hBWC hBC hbox hN hdr w0 w1 w2 w3 x2 y2
      go_cut [40] (fun t wx => t = .bool N ∧ Below wC.heap.size wC wx)
      case first =>
        go_region_held3 (fun w' => w'.cell? ⟨b2, off2, none⟩ = some (.int .i64 y.ver) ∧ w'.cell? ⟨b2, off2 + 1, none⟩ = some (.int .i64 y.st) ∧ w'.cell? ⟨b2, off2 + 2, none⟩ = some (.string y.nm) ∧ w'.cell? ⟨b2, off2 + 3, none⟩ = some (.slice tb y.tk.length td) ∧ w'.cell? ⟨bx, 0, none⟩ = some (.int .i64 x.ver) ∧ w'.cell? ⟨bx, 1, none⟩ = some (.int .i64 x.st) ∧ w'.cell? ⟨bx, 2, none⟩ = some (.string x.nm) ∧ w'.cell? ⟨bx, 3, none⟩ = some (.slice ta x.tk.length tc)) (first | (with_reducible exact ⟨y0, y1, y2', y3, d0, d1, d2, d3⟩) | (with_reducible exact z) | go_keep) (first
          | (go_at_call 18; refine (newer_any _ _ y x _ HVY.out HVX.out).mono ?_; rw [HN.out]; rintro e w2 ⟨rfl, hb2⟩; have hc := fun (p : Addr) (h : p.block < wC.heap.size) => hb2.cell (p := p) h; have z := And.intro ((hc ⟨b2, off2, none⟩ (cell_lt y0)).trans y0) (And.intro ((hc ⟨b2, off2 + 1, none⟩ (cell_lt y0)).trans y1) (And.intro ((hc ⟨b2, off2 + 2, none⟩ (cell_lt y0)).trans y2') (And.intro ((hc ⟨b2, off2 + 3, none⟩ (cell_lt y0)).trans y3) (And.intro ((hc ⟨bx, 0, none⟩ hsC).trans d0) (And.intro ((hc ⟨bx, 1, none⟩ hsC).trans d1) (And.intro ((hc ⟨bx, 2, none⟩ hsC).trans d2) ((hc ⟨bx, 3, none⟩ hsC).trans d3))))))); clear hc))
        go_wp2
        go_meet
        exact ⟨rfl, HDR.out.trans hb2⟩
      obtain ⟨rfl, hbc⟩ := hcut
      clear HVX HVY
      have hboxc := (hbc.block bx hsC).trans HBOX.out
      have hBWc : Below w.heap.size w wc := HBWC.out.trans (hbc.mono (Nat.le_trans hltb (Nat.le_of_lt hsC)))
      have hBc : Below bx wB wc := HBC.out.trans (hbc.mono (Nat.le_of_lt hsC))
      have HBWc := Lib.hid hBWc
      have HBc := Lib.hid hBc
      clear d0 d1 d2 d3 y0 y1 y2' y3 hbc
      cases N with
      | false =>
        obtain ⟨wD, rfl⟩ : ∃ wD : World, wD = wc := ⟨_, rfl⟩
        have HTZ := HTx
        have hBD := HBc.out
        have hboxD := hboxc
        clear HBWc HBc hBWc hBc hboxc
        have HLN : Hid ((acc ++ [newC x y]).length = r + 1) := Lib.hid (by rw [List.length_append, HLC.out]; rfl)
        have HZ : Hid (newC x y = x) := Lib.hid (by unfold newC; rw [HN.out]; rfl)
        have hZn : x.tk.length ≤ 1000000 := by omega
        have HBxx : Hid (Below bx wB wD) := Lib.hid hBD
        have HBWD : Hid (Below w.heap.size w wD) := Lib.hid (HBB.out.trans (hBD.mono hltb))
        have HOD : Hid (wD.ownsRow w.heap.size 27 4 (.slice uo r uc) r (pc P)) := Lib.hid (own_below HOB.out (by rw [HBX.out]; exact hBD))
        have HPD : Hid (∀ p ∈ P, ClB 27 w.heap.size wD p.1 p.2) := Lib.hid (fun p hp => clB_mono _ _ _ _ (HPB.out p hp) (by rw [HBX.out]; exact hBD))
        have HVD : Hid (ClV wD (.agg #[.int .i64 x.ver, .int .i64 x.st, .string x.nm, .slice ta x.tk.length tc]) x) := Lib.hid ⟨_, rfl, HTZ.out.below HBWD.out⟩
        obtain ⟨⟨s0, s1, s2, s3⟩, -⟩ := bx4 hboxD
        clear hBD hboxD
        go_wp2_with fail
        refine (own_any _ x _ HVD.out hZn).mono ?_
        rintro e w4 ⟨t', rfl, hown4, hb4⟩
        obtain ⟨ro, rc, rfl, -, -, -⟩ := own_shape hown4
        have hO4 := own_below HOD.out hb4
        have HB4 := Lib.hid hb4
        have HT4 := Lib.hid hown4
        have HBW4 := Lib.hid (HBWD.out.trans (hb4.mono HBWD.out.size))
        clear hown4 hb4
        go_wp2_with (at_builtin; refine append1 [.int .i64 x.ver, .int .i64 x.st, .string x.nm, .slice ro x.tk.length rc] elCl rfl _ _ rfl hO4 HBW4.out HBW4.out.size rfl rfl rfl (by intro x hx; simp at hx; rcases hx with rfl | rfl | rfl | rfl <;> rfl) ?c4 ?c5 ?_)
        case c4 => omega
        case c5 => omega
        intro v5 w5 hown5 hbel5 hgr5
        have HON : Hid (Ow (ClB 27 w.heap.size) 4 27 w.heap.size w5 v5 (acc ++ [newC x y])) := Lib.hid (by rw [HZ.out]; exact cl_snoc HP.out.1 HP.out.2.1 HPD.out HB4.out hO4 HLC.out HT4.out HTZ.out.2 hgr5 hown5)
        have HB5 := Lib.hid hbel5
        obtain ⟨vo, vc, rfl, -, -, -⟩ := own_shape hown5
        clear hO4 hown5 hgr5 hbel5 s0 s1 s2 s3
        go_wp2_with fail
        by_cases hc1 : lc = 1
        · by_cases hc2 : ld = 1
          · subst hc1
            subst hc2
            obtain rfl : p = 0 := by omega
            obtain rfl : q = 0 := by omega
            have HA2 := Lib.hid (Tx1 rfl)
            have HB2 := Lib.hid (Ty1 rfl)
            clear Tx1 Tx2 Ty1 Ty2
            go_quiet (fail)
            go_wp2_with fail
            go_roundw
            case rel => exact ⟨0, 0, _, A', B', _, by omega, HLA', HLB', HLN, HA2, HB2, Lib.hid (HON.out.below clB_mono (below_drewN (Below.refl _ _) _)), below_drewN HB5.out _, HF2, HGA', HGB'⟩
            case measure => first | (simp [lenOf]; done) | (simp [lenOf]; omega)
          · subst hc1
            obtain rfl : p = 0 := by omega
            have HA2 := Lib.hid (Tx1 rfl)
            have HB2 := Lib.hid (Ty2 hc2)
            clear Tx1 Tx2 Ty1 Ty2
            go_quiet (fail)
            go_wp2_with fail
            go_roundw
            case rel => exact ⟨0, q, _, A', B', _, by omega, HLA', HLB', HLN, HA2, HB2, Lib.hid (HON.out.below clB_mono (below_drewN (Below.refl _ _) _)), below_drewN HB5.out _, HF2, HGA', HGB'⟩
            case measure => first | (simp [lenOf]; done) | (simp [lenOf]; omega)
        · by_cases hc2 : ld = 1
          · subst hc2
            obtain rfl : q = 0 := by omega
            have HA2 := Lib.hid (Tx2 hc1)
            have HB2 := Lib.hid (Ty1 rfl)
            clear Tx1 Tx2 Ty1 Ty2
            go_quiet (fail)
            go_wp2_with fail
            go_roundw
            case rel => exact ⟨p, 0, _, A', B', _, by omega, HLA', HLB', HLN, HA2, HB2, Lib.hid (HON.out.below clB_mono (below_drewN (Below.refl _ _) _)), below_drewN HB5.out _, HF2, HGA', HGB'⟩
            case measure => first | (simp [lenOf]; done) | (simp [lenOf]; omega)
          · have HA2 := Lib.hid (Tx2 hc1)
            have HB2 := Lib.hid (Ty2 hc2)
            clear Tx1 Tx2 Ty1 Ty2
            go_quiet (fail)
            go_wp2_with fail
            go_roundw
            case rel => exact ⟨p, q, _, A', B', _, by omega, HLA', HLB', HLN, HA2, HB2, Lib.hid (HON.out.below clB_mono (below_drewN (Below.refl _ _) _)), below_drewN HB5.out _, HF2, HGA', HGB'⟩
            case measure => first | (simp [lenOf]; done) | (simp [lenOf]; omega)
      | true =>
        obtain ⟨⟨f0, f1, f2, f3⟩, ⟨g0, g1, g2, g3⟩⟩ := bx4 hboxc
        obtain ⟨w0, w1, w2, w3⟩ := HyC.out
        have y0 := (hBWc.cell (p := ⟨b2, off2, none⟩) lty).trans w0
        have y1 := (hBWc.cell (p := ⟨b2, off2 + 1, none⟩) lty).trans w1
        have y2' := (hBWc.cell (p := ⟨b2, off2 + 2, none⟩) lty).trans w2
        have y3 := (hBWc.cell (p := ⟨b2, off2 + 3, none⟩) lty).trans w3
        have HTZ := HTy
        have hB7 := below_stores (B := bx) (g := bx) (Nat.le_refl _) [.int .i64 y.ver, .int .i64 y.st, .string y.nm, .slice tb y.tk.length td] wc 0 hBc
        have hX7 := box_over (us := [.int .i64 y.ver, .int .i64 y.st, .string y.nm, .slice tb y.tk.length td]) (cs := [_, _, _, _]) hboxc rfl
        simp only [setCells, Nat.zero_add, Nat.reduceAdd] at hB7 hX7
        have H7 := Lib.hid (And.intro hB7 hX7)
        clear hB7 hX7 w0 w1 w2 w3 hBWc hBc hboxc
        go_upto_region 13 with (fail)
        refine wp_abs (fun wx => Below bx wB wx ∧ wx.heap[bx]? = some (.cells #[.int .i64 y.ver, .int .i64 y.st, .string y.nm, .slice tb y.tk.length td] 27 (0, 0))) H7.out ?_
        rintro wD ⟨hBD, hboxD⟩
        clear f0 f1 f2 f3 g0 g1 g2 g3 y0 y1 y2' y3 H7 HBWc HBc
        have HLN : Hid ((acc ++ [newC x y]).length = r + 1) := Lib.hid (by rw [List.length_append, HLC.out]; rfl)
        have HZ : Hid (newC x y = y) := Lib.hid (by unfold newC; rw [HN.out]; rfl)
        have hZn : y.tk.length ≤ 1000000 := by omega
        have HBxx : Hid (Below bx wB wD) := Lib.hid hBD
        have HBWD : Hid (Below w.heap.size w wD) := Lib.hid (HBB.out.trans (hBD.mono hltb))
        have HOD : Hid (wD.ownsRow w.heap.size 27 4 (.slice uo r uc) r (pc P)) := Lib.hid (own_below HOB.out (by rw [HBX.out]; exact hBD))
        have HPD : Hid (∀ p ∈ P, ClB 27 w.heap.size wD p.1 p.2) := Lib.hid (fun p hp => clB_mono _ _ _ _ (HPB.out p hp) (by rw [HBX.out]; exact hBD))
        have HVD : Hid (ClV wD (.agg #[.int .i64 y.ver, .int .i64 y.st, .string y.nm, .slice tb y.tk.length td]) y) := Lib.hid ⟨_, rfl, HTZ.out.below HBWD.out⟩
        obtain ⟨⟨s0, s1, s2, s3⟩, -⟩ := bx4 hboxD
        clear hBD hboxD
        go_wp2_with fail
        refine (own_any _ y _ HVD.out hZn).mono ?_
        rintro e w4 ⟨t', rfl, hown4, hb4⟩
        obtain ⟨ro, rc, rfl, -, -, -⟩ := own_shape hown4
        have hO4 := own_below HOD.out hb4
        have HB4 := Lib.hid hb4
        have HT4 := Lib.hid hown4
        have HBW4 := Lib.hid (HBWD.out.trans (hb4.mono HBWD.out.size))
        clear hown4 hb4
        go_wp2_with (at_builtin; refine append1 [.int .i64 y.ver, .int .i64 y.st, .string y.nm, .slice ro y.tk.length rc] elCl rfl _ _ rfl hO4 HBW4.out HBW4.out.size rfl rfl rfl (by intro x hx; simp at hx; rcases hx with rfl | rfl | rfl | rfl <;> rfl) ?c4 ?c5 ?_)
        case c4 => omega
        case c5 => omega
        intro v5 w5 hown5 hbel5 hgr5
        have HON : Hid (Ow (ClB 27 w.heap.size) 4 27 w.heap.size w5 v5 (acc ++ [newC x y])) := Lib.hid (by rw [HZ.out]; exact cl_snoc HP.out.1 HP.out.2.1 HPD.out HB4.out hO4 HLC.out HT4.out HTZ.out.2 hgr5 hown5)
        have HB5 := Lib.hid hbel5
        obtain ⟨vo, vc, rfl, -, -, -⟩ := own_shape hown5
        clear hO4 hown5 hgr5 hbel5 s0 s1 s2 s3
        go_wp2_with fail
        by_cases hc1 : lc = 1
        · by_cases hc2 : ld = 1
          · subst hc1
            subst hc2
            obtain rfl : p = 0 := by omega
            obtain rfl : q = 0 := by omega
            have HA2 := Lib.hid (Tx1 rfl)
            have HB2 := Lib.hid (Ty1 rfl)
            clear Tx1 Tx2 Ty1 Ty2
            go_quiet (fail)
            go_wp2_with fail
            go_roundw
            case rel => exact ⟨0, 0, _, A', B', _, by omega, HLA', HLB', HLN, HA2, HB2, Lib.hid (HON.out.below clB_mono (below_drewN (Below.refl _ _) _)), below_drewN HB5.out _, HF2, HGA', HGB'⟩
            case measure => first | (simp [lenOf]; done) | (simp [lenOf]; omega)
          · subst hc1
            obtain rfl : p = 0 := by omega
            have HA2 := Lib.hid (Tx1 rfl)
            have HB2 := Lib.hid (Ty2 hc2)
            clear Tx1 Tx2 Ty1 Ty2
            go_quiet (fail)
            go_wp2_with fail
            go_roundw
            case rel => exact ⟨0, q, _, A', B', _, by omega, HLA', HLB', HLN, HA2, HB2, Lib.hid (HON.out.below clB_mono (below_drewN (Below.refl _ _) _)), below_drewN HB5.out _, HF2, HGA', HGB'⟩
            case measure => first | (simp [lenOf]; done) | (simp [lenOf]; omega)
        · by_cases hc2 : ld = 1
          · subst hc2
            obtain rfl : q = 0 := by omega
            have HA2 := Lib.hid (Tx2 hc1)
            have HB2 := Lib.hid (Ty1 rfl)
            clear Tx1 Tx2 Ty1 Ty2
            go_quiet (fail)
            go_wp2_with fail
            go_roundw
            case rel => exact ⟨p, 0, _, A', B', _, by omega, HLA', HLB', HLN, HA2, HB2, Lib.hid (HON.out.below clB_mono (below_drewN (Below.refl _ _) _)), below_drewN HB5.out _, HF2, HGA', HGB'⟩
            case measure => first | (simp [lenOf]; done) | (simp [lenOf]; omega)
          · have HA2 := Lib.hid (Tx2 hc1)
            have HB2 := Lib.hid (Ty2 hc2)
            clear Tx1 Tx2 Ty1 Ty2
            go_quiet (fail)
            go_wp2_with fail
            go_roundw
            case rel => exact ⟨p, q, _, A', B', _, by omega, HLA', HLB', HLN, HA2, HB2, Lib.hid (HON.out.below clB_mono (below_drewN (Below.refl _ _) _)), below_drewN HB5.out _, HF2, HGA', HGB'⟩
            case measure => first | (simp [lenOf]; done) | (simp [lenOf]; omega)
end Go.Proofs.Ytcljeedmiobepaa.Nod
