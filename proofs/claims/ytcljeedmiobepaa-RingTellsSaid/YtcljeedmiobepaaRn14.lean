/-
  The ring: ring.Join.
-/
import Derived.Test.YtcljeedmiobepaaRn5
import Derived.Test.YtcljeedmiobepaaRn13
import Derived.Deep.QuietTactic
import Derived.BigQuiet
namespace Go.Proofs.Ytcljeedmiobepaa.Rng
open Go.RowKit Go.Gh Go.Proofs.Ytcljeedmiobepaa.Nod
set_option linter.unusedVariables false
def JnPost (L : List Nd) (x : Nd) (w : World) (e : Ending) (w' : World) : Prop := ∃ v' l k, e = .returned (.tuple #[v', .int .i64 k]) ∧ Sp NdR 2 w' v' l ∧ Below w.heap.size w w' ∧ if joinF L x ≠ 0 then l = [] ∧ k = joinF L x else l = withN L x ∧ k = 0
theorem lt_key {a b : ByteArray} (h1 : ¬ Op.bytesLess a.toList b.toList = true) (h2 : ¬ a.toList = b.toList) : Op.bytesLess b.toList a.toList = true := by
  rw [bytesLess_eq, decide_eq_true_eq] at *
  exact Classical.byContradiction fun h => h2 (List.le_antisymm (List.not_lt.1 h) (List.not_lt.1 h1))
theorem lt_asym {a b : ByteArray} (h1 : Op.bytesLess a.toList b.toList = true) : Op.bytesLess b.toList a.toList = false := by
  rw [bytesLess_eq, decide_eq_true_eq] at h1
  rw [bytesLess_eq, decide_eq_false_iff_not]
  exact fun h => List.lt_irrefl _ (List.lt_trans h1 h)
/-- The node's row of one is built behind the clone. -/
theorem ins_a (L : List Nd) (x : Nd) (t v4 : Value) (k : Nat) (wq w4 : World) (ho : Ow (NdA 25 wq.heap.size) 2 25 wq.heap.size w4 v4 L) (hb : Below wq.heap.size wq w4) (hx : Toks wq t x.tk) (hk : k ≤ L.length) (hl : L.length ≤ 100) :
    Calls Try.prog 131 #[v4, .int .i64 k, .slice (some ⟨w4.heap.size, 0, none⟩) 1 1] (w4.alloc (Obj.cells #[.string x.nm, t] 25)) fun e w' => ∃ v', e = .returned v' ∧ Sp NdR 2 w' v' (L.take k ++ x :: L.drop k) ∧ Below wq.heap.size wq w' := by
  have hba := hb.alloc hb.size (Obj.cells #[.string x.nm, t] 25)
  refine (insert_node v4 L x t k wq.heap.size w4.heap.size _ (ho.below ndA_mono ((Below.refl _ _).alloc (Nat.le_refl _) _)) (heap_alloc_new w4 _) (fun e => ?_) (hx.below hba) (fun hp => toks_apart hx hba.size hp) hk hl hba.size).mono ?_
  · obtain ⟨P, -, -, -, h4⟩ := ho
    have := (h4.lt _ e).2
    omega
  · rintro e w' ⟨v', rfl, h1, h2⟩
    exact ⟨v', rfl, h1, hba.trans h2⟩
/-- .. ahead of the clone. -/
theorem ins_b (L : List Nd) (x : Nd) (t v4 : Value) (k : Nat) (wq w4 : World) (ho : Ow (NdA 25 (wq.alloc (Obj.cells #[.string x.nm, t] 25)).heap.size) 2 25 (wq.alloc (Obj.cells #[.string x.nm, t] 25)).heap.size w4 v4 L) (hb : Below (wq.alloc (Obj.cells #[.string x.nm, t] 25)).heap.size (wq.alloc (Obj.cells #[.string x.nm, t] 25)) w4) (hx : Toks wq t x.tk) (hk : k ≤ L.length) (hl : L.length ≤ 100) :
    Calls Try.prog 131 #[v4, .int .i64 k, .slice (some ⟨wq.heap.size, 0, none⟩) 1 1] w4 fun e w' => ∃ v', e = .returned v' ∧ Sp NdR 2 w' v' (L.take k ++ x :: L.drop k) ∧ Below wq.heap.size wq w' := by
  have hba := (Below.refl wq.heap.size wq).alloc (Nat.le_refl _) (Obj.cells #[.string x.nm, t] 25)
  have hsz : (wq.alloc (Obj.cells #[.string x.nm, t] 25)).heap.size = wq.heap.size + 1 := by simp
  refine (insert_node v4 L x t k (wq.alloc (Obj.cells #[.string x.nm, t] 25)).heap.size wq.heap.size _ ho ((hb.block _ (by omega)).trans (heap_alloc_new wq _)) (fun e => ?_) ((hx.below hba).below hb) (fun hp => toks_apart (hx.below hba) hb.size hp) hk hl hb.size).mono ?_
  · obtain ⟨P, -, -, -, h4⟩ := ho
    have := (h4.lt _ e).1
    omega
  · rintro e w' ⟨v', rfl, h1, h2⟩
    exact ⟨v', rfl, h1, hba.trans ((hb.trans h2).mono (by omega))⟩
theorem ins_tk {L : List Nd} {x : Nd} {k : Nat} (h : ∀ y ∈ L, y.tk.length ≤ 20) (hx : x.tk.length ≤ 20) : ∀ y ∈ L.take k ++ x :: L.drop k, y.tk.length ≤ 1000 := fun y hy => by
  rcases List.mem_append.1 hy with hy | hy
  · have := h y (List.mem_of_mem_take hy); omega
  · rcases List.mem_cons.1 hy with rfl | hy
    · omega
    · have := h y (List.mem_of_mem_drop hy); omega
theorem ins_len {L : List Nd} {x : Nd} {k : Nat} (hk : k ≤ L.length) : (L.take k ++ x :: L.drop k).length = L.length + 1 := by
  rw [List.length_append, List.length_cons, List.length_take, List.length_drop]
  omega
set_option maxHeartbeats 8000000 in
set_option maxRecDepth 100000 in
theorem join_any (v vx : Value) (L : List Nd) (x : Nd) (w : World) (hs : Sp NdR 2 w v L) (hx : NdV w vx x) : Calls Try.prog 61 #[v, vx] w (JnPost L x w) := by
  obtain ⟨n, hn⟩ : ∃ n, L.length = n := ⟨_, rfl⟩
  obtain ⟨ao, c, rfl, hnc, hc⟩ := hs.shapeN hn
  obtain ⟨xn, xk⟩ := x
  obtain ⟨xt, rfl, hxt⟩ := hx
  dsimp only at hxt
  obtain ⟨xo, xc, rfl, -, -, -⟩ := hxt.1.shape
  have HN := Lib.hid hn
  clear hn
  obtain ⟨E, hE⟩ : ∃ E, nodesF L = E := ⟨_, rfl⟩
  have HE := Lib.hid hE
  obtain ⟨G, hG⟩ : ∃ G, nodesF [(⟨xn, xk⟩ : Nd)] = G := ⟨_, rfl⟩
  have HG := Lib.hid hG
  clear hE hG
  -- the box, the row of one, the row of two
  obtain ⟨W, hW⟩ : ∃ W, W = ((w.alloc (Obj.cells #[.string xn, .slice xo xk.length xc] 25)).alloc (Obj.cells #[.string xn, .slice xo xk.length xc] 25)).alloc (Obj.cells #[.slice ao n c, .slice (some ⟨w.heap.size + 1, 0, none⟩) 1 1] 31) := ⟨_, rfl⟩
  have hb0 : W.heap[w.heap.size]? = some (.cells #[.string xn, .slice xo xk.length xc] 25 (0, 0)) := by
    rw [hW, heap_alloc_old _ _ (by simp; omega)]
    exact two_first w _ _
  have hb1 : W.heap[w.heap.size + 1]? = some (.cells #[.string xn, .slice xo xk.length xc] 25 (0, 0)) := by
    rw [hW, heap_alloc_old _ _ (by simp)]
    exact two_second w _ _
  have hb2 : W.heap[w.heap.size + 2]? = some (.cells #[.slice ao n c, .slice (some ⟨w.heap.size + 1, 0, none⟩) 1 1] 31 (0, 0)) := by
    rw [hW]
    have := heap_alloc_new ((w.alloc (Obj.cells #[.string xn, .slice xo xk.length xc] 25)).alloc (Obj.cells #[.string xn, .slice xo xk.length xc] 25)) (Obj.cells #[.slice ao n c, .slice (some ⟨w.heap.size + 1, 0, none⟩) 1 1] 31)
    simpa using this
  have hbW : Below w.heap.size w W := by rw [hW]; exact (((Below.refl _ _).alloc (Nat.le_refl _) _).alloc (by simp) _).alloc (by simp; omega) _
  have hsW : W.heap.size = w.heap.size + 3 := by rw [hW]; simp
  have HS : Hid (Sp NdR 2 W (.slice ao n c) L) := Lib.hid (hs.below ndR_mono hbW)
  have HXT : Hid (Toks W (.slice xo xk.length xc) xk) := Lib.hid (hxt.below hbW)
  have HBW := Lib.hid hbW
  have HSN : Hid (Sp NdR 2 W (.slice (some ⟨w.heap.size + 1, 0, none⟩) 1 1) [(⟨xn, xk⟩ : Nd)]) := Lib.hid ⟨[(⟨xn, xk⟩, [.string xn, .slice xo xk.length xc])], rfl, fun p hp => by simp at hp; subst hp; rfl, fun p hp => by simp at hp; subst hp; exact ⟨_, rfl, HXT.out⟩, some ⟨w.heap.size + 1, 0, none⟩, 1, rfl, Nat.le_refl _, by decide, fun h => by simp at h, rfl, fun _ => ⟨w.heap.size + 1, 0, rfl, fun j u hj => by rw [Nat.zero_add]; exact (row_cell j u hb1 (by simpa [pc] using hj)).1⟩⟩
  have HB0 : Hid (∀ wr : World, Below W.heap.size W wr → wr.heap[w.heap.size]? = some (.cells #[.string xn, .slice xo xk.length xc] 25 (0, 0))) := Lib.hid (fun wr hb => (hb.block _ (by omega)).trans hb0)
  have HB2 : Hid (∀ wr : World, Below W.heap.size W wr → wr.heap[w.heap.size + 2]? = some (.cells #[.slice ao n c, .slice (some ⟨w.heap.size + 1, 0, none⟩) 1 1] 31 (0, 0))) := Lib.hid (fun wr hb => (hb.block _ (by omega)).trans hb2)
  have HSZ := Lib.hid hsW
  clear hs hxt hb0 hb1 hb2 hsW
  go_enter Try.func61, Try.ntmps61
  go_upto_region 2 with (fail)
  rw [← hW]
  generalize hbxe : w.heap.size = bx at *
  have HBE := Lib.hid hbxe
  clear hW hbW hbxe
  go_loopw [15] (fun i wr => ∃ k : Int, (k = 0 ∨ k = 1 ∨ k = 2) ∧ i = .int .i64 k ∧ Hid ((1 ≤ k → E = 0) ∧ (2 ≤ k → G = 0)) ∧ Below W.heap.size W wr) (fun i _ => 2 - (intOf i).toNat)
  case atStart => exact ⟨0, Or.inl rfl, rfl, Lib.hid ⟨fun h => by omega, fun h => by omega⟩, Below.refl _ _⟩
  case round =>
    obtain ⟨k, hk, rfl, HK, hbel⟩ := hrel
    obtain ⟨k1, k2⟩ := HK.out
    have HBL := Lib.hid hbel
    obtain ⟨⟨a0, a1⟩, -⟩ := bx2 (HB2.out wr hbel)
    rcases hk with rfl | rfl | rfl
    · clear k1 k2
      by_cases hz : E = 0
      · have HK2 : Hid ((1 ≤ (1 : Int) → E = 0) ∧ (2 ≤ (1 : Int) → G = 0)) := Lib.hid ⟨fun _ => hz, fun h => by omega⟩
        have t1 : (E != 0) = false := by rw [hz]; rfl
        clear hz hbel
        go_wp2_with (go_at_call 64; refine (check_any _ L _ (HS.out.below ndR_mono HBL.out)).mono ?_; rw [HE.out]; rintro e w1 ⟨rfl, hb1⟩)
        have HB1 := Lib.hid (HBL.out.trans (hb1.mono HBL.out.size))
        clear hb1
        go_roundw
        case rel => exact ⟨1, Or.inr (Or.inl rfl), rfl, HK2, HB1.out⟩
        case measure => simp [intOf]
      · have t1 : (E != 0) = true := by rw [bne_iff_ne]; exact hz
        have HF : Hid (joinF L ⟨xn, xk⟩ = E) := Lib.hid (by unfold joinF; rw [HE.out, if_pos hz])
        have HZ := Lib.hid hz
        clear hz hbel
        go_wp2_with (go_at_call 64; refine (check_any _ L _ (HS.out.below ndR_mono HBL.out)).mono ?_; rw [HE.out]; rintro e w1 ⟨rfl, hb1⟩)
        go_ret2
        refine ⟨_, [], E, rfl, Sp.nil, by rw [HBE.out]; exact HBW.out.trans ((HBL.out.trans (hb1.mono HBL.out.size)).mono (by have := HSZ.out; omega)), ?_⟩
        rw [HF.out, if_pos HZ.out]
        exact ⟨rfl, rfl⟩
    · have hE := k1 (by omega)
      clear k1 k2
      by_cases hz : G = 0
      · have HK2 : Hid ((1 ≤ (2 : Int) → E = 0) ∧ (2 ≤ (2 : Int) → G = 0)) := Lib.hid ⟨fun _ => hE, fun h => hz⟩
        have t1 : (G != 0) = false := by rw [hz]; rfl
        clear hz hbel hE
        go_wp2_with (go_at_call 64; refine (check_any _ [(⟨xn, xk⟩ : Nd)] _ (HSN.out.below ndR_mono HBL.out)).mono ?_; rw [HG.out]; rintro e w1 ⟨rfl, hb1⟩)
        have HB1 := Lib.hid (HBL.out.trans (hb1.mono HBL.out.size))
        clear hb1
        go_roundw
        case rel => exact ⟨2, Or.inr (Or.inr rfl), rfl, HK2, HB1.out⟩
        case measure => simp [intOf]
      · have t1 : (G != 0) = true := by rw [bne_iff_ne]; exact hz
        have HF : Hid (joinF L ⟨xn, xk⟩ = G) := Lib.hid (by unfold joinF; rw [HE.out, if_neg (fun h => h hE), HG.out, if_pos hz])
        have HZ := Lib.hid hz
        clear hz hbel hE
        go_wp2_with (go_at_call 64; refine (check_any _ [(⟨xn, xk⟩ : Nd)] _ (HSN.out.below ndR_mono HBL.out)).mono ?_; rw [HG.out]; rintro e w1 ⟨rfl, hb1⟩)
        go_ret2
        refine ⟨_, [], G, rfl, Sp.nil, by rw [HBE.out]; exact HBW.out.trans ((HBL.out.trans (hb1.mono HBL.out.size)).mono (by have := HSZ.out; omega)), ?_⟩
        rw [HF.out, if_pos HZ.out]
        exact ⟨rfl, rfl⟩
    · obtain rfl := k1 (by omega)
      obtain rfl := k2 (by omega)
      clear k1 k2 HK hbel
      have HSR := Lib.hid (HS.out.below ndR_mono HBL.out)
      obtain ⟨⟨x0, x1⟩, -⟩ := bx2 (HB0.out wr HBL.out)
      go_wp2_with fail
      refine (find_any _ L xn _ HSR.out).mono ?_
      rintro e w2 ⟨r, rfl, hr, hb2⟩
      have HB2' := Lib.hid (HBL.out.trans (hb2.mono HBL.out.size))
      clear hb2 a0 a1 x0 x1
      rcases idx_has hr with ⟨hr0, hno⟩ | ⟨hr0, hyes, i, x, hri, hx, hxn⟩
      case inr =>
        have HF : Hid (joinF L ⟨xn, xk⟩ = 8) := Lib.hid (by unfold joinF; rw [HE.out, if_neg (fun h => h rfl), HG.out, if_neg (fun h => h rfl), if_pos hyes])
        have t1 : decide (r ≥ 0) = true := decide_eq_true hr0
        clear hr hyes hri hx hxn
        go_wp2_with fail
        go_ret2
        refine ⟨_, [], 8, rfl, Sp.nil, by rw [HBE.out]; exact HBW.out.trans (HB2'.out.mono (by have := HSZ.out; omega)), ?_⟩
        rw [HF.out, if_pos (by decide)]
        exact ⟨rfl, rfl⟩
      have t1 : decide (r ≥ 0) = false := decide_eq_false (by omega)
      have HNO := Lib.hid hno
      clear hno
      by_cases h20 : n = 20
      · have HF : Hid (joinF L ⟨xn, xk⟩ = 2) := Lib.hid (by unfold joinF; rw [HE.out, if_neg (fun h => h rfl), HG.out, if_neg (fun h => h rfl), if_neg (by rw [HNO.out]; simp), if_pos (by rw [HN.out]; exact h20)])
        have h20' : ((n : Int) == 20) = true := by rw [h20]; rfl
        clear hr h20
        go_wp2_with fail
        go_ret2
        refine ⟨_, [], 2, rfl, Sp.nil, by rw [HBE.out]; exact HBW.out.trans (HB2'.out.mono (by have := HSZ.out; omega)), ?_⟩
        rw [HF.out, if_pos (by decide)]
        exact ⟨rfl, rfl⟩
      have HF : Hid (joinF L ⟨xn, xk⟩ = 0) := Lib.hid (by unfold joinF; rw [HE.out, if_neg (fun h => h rfl), HG.out, if_neg (fun h => h rfl), if_neg (by rw [HNO.out]; simp), if_neg (by rw [HN.out]; exact h20)])
      have h20' : ((n : Int) == 20) = false := by rw [beq_eq_false_iff_ne]; omega
      have HNE : Hid (∀ y ∈ L, ¬ y.nm.toList = xn.toList) := Lib.hid (fun y hy he => by
        have := hasN_yes hy he
        rw [HNO.out] at this
        simp at this)
      obtain ⟨z1, z2, z3⟩ := nodes_zero HE.out
      have HL20 := Lib.hid z1
      have HTK : Hid (∀ y ∈ L, y.tk.length ≤ 20) := Lib.hid fun y hy => (z2 y hy).2.2.1
      have HXK : Hid (xk.length ≤ 20) := Lib.hid ((nodes_zero HG.out).2.1 ⟨xn, xk⟩ (by simp)).2.2.1
      clear hr z1 z2 z3 h20
      go_wp2_with fail
      go_loopw [9] (fun i wr => ∃ k : Nat, k ≤ n ∧ i = .int .i64 k ∧ Hid (∀ y ∈ L.take k, Op.bytesLess xn.toList y.nm.toList = false) ∧ Below W.heap.size W wr) (fun i _ => n - (intOf i).toNat)
      case atStart => exact ⟨0, Nat.zero_le _, rfl, Lib.hid (fun y hy => by simp at hy), HB2'.out⟩
      case round =>
        obtain ⟨k, hk, rfl, HT, hbel⟩ := hrel
        have HBL3 := Lib.hid hbel
        have HS3 := Lib.hid (HS.out.below ndR_mono hbel)
        obtain ⟨⟨x0, x1⟩, -⟩ := bx2 (HB0.out _ hbel)
        have hcase : (k < n ∧ ∃ y, L[k]? = some y ∧ Op.bytesLess y.nm.toList xn.toList = true) ∨ (k < n ∧ (∃ y, L[k]? = some y ∧ Op.bytesLess y.nm.toList xn.toList = false) ∧ ∀ y, L[k]? = some y → Op.bytesLess xn.toList y.nm.toList = true) ∨ (k = n ∧ ∀ y, L[k]? = some y → Op.bytesLess xn.toList y.nm.toList = true) := by
          by_cases hlt : k < n
          · obtain ⟨y, hy⟩ : ∃ y, L[k]? = some y := ⟨_, List.getElem?_eq_getElem (by rw [HN.out]; exact hlt)⟩
            by_cases hl : Op.bytesLess y.nm.toList xn.toList = true
            · exact Or.inl ⟨hlt, y, hy, hl⟩
            · exact Or.inr (Or.inl ⟨hlt, ⟨y, hy, by simpa using hl⟩, fun z hz => by
                rw [hy] at hz
                injection hz with hz
                subst hz
                exact lt_key hl (HNE.out _ (List.mem_of_getElem? hy))⟩)
          · exact Or.inr (Or.inr ⟨by omega, fun y hy => by
              have := (List.getElem?_eq_some_iff.1 hy).1
              rw [HN.out] at this
              omega⟩)
        rcases hcase with ⟨hlt, y, hy, hl⟩ | ⟨hlt, ⟨y, hy, hl⟩, hall⟩ | ⟨rfl, hall⟩
        · obtain ⟨b, off, cs, rfl, ⟨t, rfl, hty⟩, _, hck⟩ := HS3.out.get hy
          have c0 := hck 0 _ rfl
          rw [Nat.add_zero] at c0
          have HT2 : Hid (∀ z ∈ L.take (k + 1), Op.bytesLess xn.toList z.nm.toList = false) := Lib.hid (fun z hz => by
            obtain ⟨h1, h2⟩ := List.getElem?_eq_some_iff.1 hy
            rw [List.take_succ_eq_append_getElem h1, h2] at hz
            rcases List.mem_append.1 hz with hz | hz
            · exact HT.out z hz
            · have : z = y := by simpa using hz
              rw [this]; exact lt_asym hl)
          clear hck hty hy
          go_wp2_with fail
          go_quiet (fail)
          go_wp2_with fail
          go_roundw
          case rel => exact ⟨k + 1, by omega, by go_num, HT2, below_drewN HBL3.out _⟩
          case measure => simp [intOf]; omega
        · obtain ⟨b, off, cs, rfl, ⟨t, rfl, hty⟩, _, hck⟩ := HS3.out.get hy
          have c0 := hck 0 _ rfl
          rw [Nat.add_zero] at c0
          have HW : Hid (withN L ⟨xn, xk⟩ = L.take k ++ ⟨xn, xk⟩ :: L.drop k) := Lib.hid (withN_is HT.out hall)
          clear hck hty hy hall
          go_wp2_with fail
          go_quiet (fail)
          go_wp2_with fail
          obtain ⟨wq, hwq⟩ : ∃ wq, wq = wr.drewN nq := ⟨_, rfl⟩
          rw [← hwq]
          have hbq : Below W.heap.size W wq := by rw [hwq]; exact below_drewN HBL3.out _
          have HBQ := Lib.hid hbq.drew
          have HSQ := Lib.hid (HS.out.below ndR_mono hbq.drew)
          have HTQ := Lib.hid (HXT.out.below hbq.drew)
          have HAL : Hid (Below wq.drew.heap.size wq.drew (wq.drew.alloc (Obj.cells #[.string xn, .slice xo xk.length xc] 25))) := Lib.hid ((Below.refl _ _).alloc (Nat.le_refl _) _)
          obtain ⟨⟨z0, z1⟩, -⟩ := bx2 (HB0.out _ hbq)
          obtain ⟨⟨d0, d1⟩, -⟩ := bx2 (HB0.out _ hbq.drew)
          have HLL : Hid (k ≤ L.length ∧ L.length ≤ 100) := Lib.hid ⟨by rw [HN.out]; omega, by have := HL20.out; omega⟩
          clear hwq hbq x0 x1 hbel
          go_region_held3 (fun w' => w'.cell? ⟨bx, 0, none⟩ = some (.string xn) ∧ w'.cell? ⟨bx, 1, none⟩ = some (.slice xo xk.length xc)) (first | (with_reducible exact ⟨z0, z1⟩) | (with_reducible exact ⟨d0, d1⟩) | (with_reducible exact ⟨y0, y1⟩) | (with_reducible exact ⟨e0, e1⟩) | (with_reducible exact ⟨f0, f1⟩) | go_keep) (first
            | (go_at_call 132; refine (clone_node _ L _ HSQ.out HLL.out.2).mono ?_; rintro e w4 ⟨v4, rfl, ho4, hb4⟩; have HO4 := Lib.hid ho4; have HB4 := Lib.hid hb4; have y0 := (hb4.cell (p := ⟨bx, 0, none⟩) (cell_lt d0)).trans d0; have y1 := (hb4.cell (p := ⟨bx, 1, none⟩) (cell_lt d0)).trans d1)
            | (go_at_call 132; refine (clone_node _ L _ (HSQ.out.below ndR_mono HAL.out) HLL.out.2).mono ?_; rintro e w4 ⟨v4, rfl, ho4, hb4⟩; have HO4' := Lib.hid ho4; have HB4' := Lib.hid hb4; have y0 := ((HAL.out.trans (hb4.mono HAL.out.size)).cell (p := ⟨bx, 0, none⟩) (cell_lt d0)).trans d0; have y1 := ((HAL.out.trans (hb4.mono HAL.out.size)).cell (p := ⟨bx, 1, none⟩) (cell_lt d0)).trans d1)
            | (go_at_call 131; refine (ins_a L ⟨xn, xk⟩ _ _ k wq.drew w4 HO4.out HB4.out HTQ.out HLL.out.1 HLL.out.2).mono ?_; rintro e w5 ⟨v5, rfl, hs5, hb5⟩; have HS5 := Lib.hid hs5; have HB5 := Lib.hid hb5; have e0 := (hb5.cell (p := ⟨bx, 0, none⟩) (cell_lt d0)).trans d0; have e1 := (hb5.cell (p := ⟨bx, 1, none⟩) (cell_lt d0)).trans d1)
            | (go_at_call 131; refine (ins_b L ⟨xn, xk⟩ _ _ k wq.drew w4 HO4'.out HB4'.out HTQ.out HLL.out.1 HLL.out.2).mono ?_; rintro e w5 ⟨v5, rfl, hs5, hb5⟩; have HS5 := Lib.hid hs5; have HB5 := Lib.hid hb5; have e0 := (hb5.cell (p := ⟨bx, 0, none⟩) (cell_lt d0)).trans d0; have e1 := (hb5.cell (p := ⟨bx, 1, none⟩) (cell_lt d0)).trans d1)
            | (go_at_call 130; refine (ringown_any _ _ _ HS5.out (by rw [ins_len HLL.out.1]; have := HL20.out; omega) (ins_tk HTK.out HXK.out)).mono ?_; rintro e w6 ⟨v6, rfl, hs6, hb6⟩; have HS6 := Lib.hid hs6; have HB6 := Lib.hid (HB5.out.trans (hb6.mono HB5.out.size)); have f0 := (HB6.out.cell (p := ⟨bx, 0, none⟩) (cell_lt d0)).trans d0; have f1 := (HB6.out.cell (p := ⟨bx, 1, none⟩) (cell_lt d0)).trans d1))
          all_goals
            go_wp2_with fail
            go_ret2
            refine ⟨_, _, 0, rfl, HS6.out, by rw [HBE.out]; exact HBW.out.trans ((HBQ.out.trans (HB6.out.mono HBQ.out.size)).mono (by have := HSZ.out; omega)), ?_⟩
            rw [HF.out, if_neg (by simp)]
            exact ⟨HW.out.symm, rfl⟩
        · have HW : Hid (withN L ⟨xn, xk⟩ = L.take k ++ ⟨xn, xk⟩ :: L.drop k) := Lib.hid (withN_is HT.out hall)
          clear hall
          go_wp2_with fail
          go_quiet (fail)
          go_wp2_with fail
          obtain ⟨wq, hwq⟩ : ∃ wq, wq = wr.drewN nq := ⟨_, rfl⟩
          rw [← hwq]
          have hbq : Below W.heap.size W wq := by rw [hwq]; exact below_drewN HBL3.out _
          have HBQ := Lib.hid hbq.drew
          have HSQ := Lib.hid (HS.out.below ndR_mono hbq.drew)
          have HTQ := Lib.hid (HXT.out.below hbq.drew)
          have HAL : Hid (Below wq.drew.heap.size wq.drew (wq.drew.alloc (Obj.cells #[.string xn, .slice xo xk.length xc] 25))) := Lib.hid ((Below.refl _ _).alloc (Nat.le_refl _) _)
          obtain ⟨⟨z0, z1⟩, -⟩ := bx2 (HB0.out _ hbq)
          obtain ⟨⟨d0, d1⟩, -⟩ := bx2 (HB0.out _ hbq.drew)
          have HLL : Hid (k ≤ L.length ∧ L.length ≤ 100) := Lib.hid ⟨by rw [HN.out]; omega, by have := HL20.out; omega⟩
          clear hwq hbq x0 x1 hbel
          go_region_held3 (fun w' => w'.cell? ⟨bx, 0, none⟩ = some (.string xn) ∧ w'.cell? ⟨bx, 1, none⟩ = some (.slice xo xk.length xc)) (first | (with_reducible exact ⟨z0, z1⟩) | (with_reducible exact ⟨d0, d1⟩) | (with_reducible exact ⟨y0, y1⟩) | (with_reducible exact ⟨e0, e1⟩) | (with_reducible exact ⟨f0, f1⟩) | go_keep) (first
            | (go_at_call 132; refine (clone_node _ L _ HSQ.out HLL.out.2).mono ?_; rintro e w4 ⟨v4, rfl, ho4, hb4⟩; have HO4 := Lib.hid ho4; have HB4 := Lib.hid hb4; have y0 := (hb4.cell (p := ⟨bx, 0, none⟩) (cell_lt d0)).trans d0; have y1 := (hb4.cell (p := ⟨bx, 1, none⟩) (cell_lt d0)).trans d1)
            | (go_at_call 132; refine (clone_node _ L _ (HSQ.out.below ndR_mono HAL.out) HLL.out.2).mono ?_; rintro e w4 ⟨v4, rfl, ho4, hb4⟩; have HO4' := Lib.hid ho4; have HB4' := Lib.hid hb4; have y0 := ((HAL.out.trans (hb4.mono HAL.out.size)).cell (p := ⟨bx, 0, none⟩) (cell_lt d0)).trans d0; have y1 := ((HAL.out.trans (hb4.mono HAL.out.size)).cell (p := ⟨bx, 1, none⟩) (cell_lt d0)).trans d1)
            | (go_at_call 131; refine (ins_a L ⟨xn, xk⟩ _ _ k wq.drew w4 HO4.out HB4.out HTQ.out HLL.out.1 HLL.out.2).mono ?_; rintro e w5 ⟨v5, rfl, hs5, hb5⟩; have HS5 := Lib.hid hs5; have HB5 := Lib.hid hb5; have e0 := (hb5.cell (p := ⟨bx, 0, none⟩) (cell_lt d0)).trans d0; have e1 := (hb5.cell (p := ⟨bx, 1, none⟩) (cell_lt d0)).trans d1)
            | (go_at_call 131; refine (ins_b L ⟨xn, xk⟩ _ _ k wq.drew w4 HO4'.out HB4'.out HTQ.out HLL.out.1 HLL.out.2).mono ?_; rintro e w5 ⟨v5, rfl, hs5, hb5⟩; have HS5 := Lib.hid hs5; have HB5 := Lib.hid hb5; have e0 := (hb5.cell (p := ⟨bx, 0, none⟩) (cell_lt d0)).trans d0; have e1 := (hb5.cell (p := ⟨bx, 1, none⟩) (cell_lt d0)).trans d1)
            | (go_at_call 130; refine (ringown_any _ _ _ HS5.out (by rw [ins_len HLL.out.1]; have := HL20.out; omega) (ins_tk HTK.out HXK.out)).mono ?_; rintro e w6 ⟨v6, rfl, hs6, hb6⟩; have HS6 := Lib.hid hs6; have HB6 := Lib.hid (HB5.out.trans (hb6.mono HB5.out.size)); have f0 := (HB6.out.cell (p := ⟨bx, 0, none⟩) (cell_lt d0)).trans d0; have f1 := (HB6.out.cell (p := ⟨bx, 1, none⟩) (cell_lt d0)).trans d1))
          all_goals
            go_wp2_with fail
            go_ret2
            refine ⟨_, _, 0, rfl, HS6.out, by rw [HBE.out]; exact HBW.out.trans ((HBQ.out.trans (HB6.out.mono HBQ.out.size)).mono (by have := HSZ.out; omega)), ?_⟩
            rw [HF.out, if_neg (by simp)]
            exact ⟨HW.out.symm, rfl⟩
end Go.Proofs.Ytcljeedmiobepaa.Rng
/-
  The walks of sameTokens, SameNodes, SameClaims at equal lists.
-/
namespace Go.Proofs.Ytcljeedmiobepaa.Nod
open Go.RowKit Go.Gh
set_option linter.unusedVariables false
set_option maxRecDepth 100000 in
theorem sametok_any (v u : Value) (l : List Int) (w : World) (hs : Toks w v l) (ht : Toks w u l) :
    Calls Try.prog 107 #[v, u] w fun e w' => e = .returned (.bool true) ∧ ∃ q, w' = w.drewN q := by
  obtain ⟨ao, c, rfl, hnc, hc, -⟩ := hs.1.shape
  obtain ⟨bo, d, rfl, hod, hd, -⟩ := ht.1.shape
  obtain ⟨n, hn⟩ : ∃ n, l.length = n := ⟨_, rfl⟩
  rw [hn] at hs ht hnc hod ⊢
  have HN := Lib.hid hn
  have HS := Lib.hid hs
  have HT := Lib.hid ht
  clear hn hs ht
  go_enter Try.func107, Try.ntmps107
  go_wp2_with fail
  go_loopw [13] (fun i wr => ∃ k : Nat, k ≤ n ∧ i = .int .i64 k ∧ ∃ q, wr = w.drewN q) (fun i _ => n - (intOf i).toNat)
  case atStart => exact ⟨0, by omega, rfl, 0, rfl⟩
  case round =>
    obtain ⟨k, hk, rfl, q, rfl⟩ := hrel
    by_cases hlt : k < n
    · obtain ⟨b, off, rfl, hc1⟩ := HS.out.at (i := k) (by rw [HN.out]; exact hlt)
      obtain ⟨b', off', rfl, hc2⟩ := HT.out.at (i := k) (by rw [HN.out]; exact hlt)
      generalize l.getD k 0 = z at *
      have hz : (z != z) = false := by simp
      go_wp2_with fail
      go_quiet (fail)
      go_wp2
      go_roundw
      case rel => exact ⟨k + 1, by omega, by go_num, _, rfl⟩
      case measure => simp [intOf]; omega
    · obtain rfl : k = n := by omega
      go_wp2_with fail
      go_ret
      exact ⟨rfl, _, rfl⟩
theorem sp_at {α : Type} {R : World → α → List Value → Prop} {k : Nat} {w : World} {ao : Option Addr} {n c i : Nat} {L : List α} (h : Sp R k w (.slice ao n c) L) (hi : i < L.length) : ∃ a, L[i]? = some a := ⟨_, List.getElem?_eq_getElem hi⟩
set_option maxHeartbeats 2000000 in
set_option maxRecDepth 100000 in
theorem samenodes_any (v u : Value) (L : List Nd) (w : World) (hs : Sp NdR 2 w v L) (ht : Sp NdR 2 w u L) :
    Calls Try.prog 21 #[v, u] w fun e w' => e = .returned (.bool true) ∧ Below w.heap.size w w' := by
  obtain ⟨ao, c, rfl, hnc, hc⟩ := hs.shape
  obtain ⟨bo, d, rfl, hod, hd⟩ := ht.shape
  obtain ⟨n, hn⟩ : ∃ n, L.length = n := ⟨_, rfl⟩
  rw [hn] at hs ht hnc hod ⊢
  have HN := Lib.hid hn
  have HS := Lib.hid hs
  have HT := Lib.hid ht
  clear hn hs ht
  go_enter Try.func21, Try.ntmps21
  go_wp2_with fail
  go_loopw [13] (fun i wr => ∃ k : Nat, k ≤ n ∧ i = .int .i64 k ∧ Below w.heap.size w wr) (fun i _ => n - (intOf i).toNat)
  case atStart => exact ⟨0, by omega, rfl, Below.refl _ _⟩
  case round =>
    obtain ⟨k, hk, rfl, hbr⟩ := hrel
    by_cases hlt : k < n
    · obtain ⟨x, hx⟩ : ∃ x, L[k]? = some x := ⟨_, List.getElem?_eq_getElem (by rw [HN.out]; exact hlt)⟩
      obtain ⟨b, off, cs, rfl, ⟨t, rfl, htx⟩, _, hck⟩ := (HS.out.below ndR_mono hbr).get hx
      obtain ⟨b', off', cs', rfl, ⟨t', rfl, htx'⟩, _, hck'⟩ := (HT.out.below ndR_mono hbr).get hx
      have c0 := hck 0 _ rfl
      have c1 := hck 1 _ rfl
      have d0 := hck' 0 _ rfl
      have d1 := hck' 1 _ rfl
      rw [Nat.add_zero] at c0 d0
      have h1 := htx.one
      have HX : Hid (∀ q, Toks (wr.drewN q) t x.tk) := Lib.hid (fun q => htx.below (below_drewN (Below.refl _ _) q))
      have HX' : Hid (∀ q, Toks (wr.drewN q) t' x.tk) := Lib.hid (fun q => htx'.below (below_drewN (Below.refl _ _) q))
      obtain ⟨ta, tc, rfl, -, -, -⟩ := htx.1.shape
      obtain ⟨tb, td, rfl, -, -, -⟩ := htx'.1.shape
      clear hck hck' htx htx' hx h1
      have hz : (x.nm.toList != x.nm.toList) = false := by simp
      go_wp2_with fail
      go_quiet ((go_at_call 107; exact Calls.quiet_of (sametok_any _ _ x.tk _ (HX.out _) (HX'.out _))))
      go_wp2
      go_roundw
      case rel => exact ⟨k + 1, by omega, by go_num, below_drewN hbr _⟩
      case measure => simp [intOf]; omega
    · obtain rfl : k = n := by omega
      go_wp2_with fail
      go_ret
      exact ⟨rfl, hbr⟩
set_option maxHeartbeats 4000000 in
set_option maxRecDepth 100000 in
theorem sameclaims_any (v u : Value) (L : List Cl) (w : World) (hs : Sp ClR 4 w v L) (ht : Sp ClR 4 w u L) :
    Calls Try.prog 23 #[v, u] w fun e w' => e = .returned (.bool true) ∧ Below w.heap.size w w' := by
  obtain ⟨ao, c, rfl, hnc, hc⟩ := hs.shape
  obtain ⟨bo, d, rfl, hod, hd⟩ := ht.shape
  obtain ⟨n, hn⟩ : ∃ n, L.length = n := ⟨_, rfl⟩
  rw [hn] at hs ht hnc hod ⊢
  have HN := Lib.hid hn
  have HS := Lib.hid hs
  have HT := Lib.hid ht
  clear hn hs ht
  go_enter Try.func23, Try.ntmps23
  go_wp2_with fail
  go_loopw [13] (fun i wr => ∃ k : Nat, k ≤ n ∧ i = .int .i64 k ∧ Below w.heap.size w wr) (fun i _ => n - (intOf i).toNat)
  case atStart => exact ⟨0, by omega, rfl, Below.refl _ _⟩
  case round =>
    obtain ⟨k, hk, rfl, hbr⟩ := hrel
    by_cases hlt : k < n
    · obtain ⟨x, hx⟩ : ∃ x, L[k]? = some x := ⟨_, List.getElem?_eq_getElem (by rw [HN.out]; exact hlt)⟩
      obtain ⟨b, off, cs, rfl, ⟨t, rfl, htx⟩, _, hck⟩ := (HS.out.below clR_mono hbr).get hx
      obtain ⟨b', off', cs', rfl, ⟨t', rfl, htx'⟩, _, hck'⟩ := (HT.out.below clR_mono hbr).get hx
      have c0 := hck 0 _ rfl
      have c1 := hck 1 _ rfl
      have c2 := hck 2 _ rfl
      have c3 := hck 3 _ rfl
      have d0 := hck' 0 _ rfl
      have d1 := hck' 1 _ rfl
      have d2 := hck' 2 _ rfl
      have d3 := hck' 3 _ rfl
      rw [Nat.add_zero] at c0 d0
      have HX : Hid (∀ q, Toks (wr.drewN q) t x.tk) := Lib.hid (fun q => htx.below (below_drewN (Below.refl _ _) q))
      have HX' : Hid (∀ q, Toks (wr.drewN q) t' x.tk) := Lib.hid (fun q => htx'.below (below_drewN (Below.refl _ _) q))
      obtain ⟨ta, tc, rfl, -, -, -⟩ := htx.1.shape
      obtain ⟨tb, td, rfl, -, -, -⟩ := htx'.1.shape
      clear hck hck' htx htx' hx
      have hz : (x.nm.toList != x.nm.toList) = false := by simp
      have hz1 : (x.ver != x.ver) = false := by simp
      have hz2 : (x.st != x.st) = false := by simp
      go_wp2_with fail
      go_quiet ((go_at_call 107; exact Calls.quiet_of (sametok_any _ _ x.tk _ (HX.out _) (HX'.out _))))
      go_wp2
      go_roundw
      case rel => exact ⟨k + 1, by omega, by go_num, below_drewN hbr _⟩
      case measure => simp [intOf]; omega
    · obtain rfl : k = n := by omega
      go_wp2_with fail
      go_ret
      exact ⟨rfl, hbr⟩
end Go.Proofs.Ytcljeedmiobepaa.Nod
/-
  The walk of the law RingTells.
-/
namespace Go.Proofs.Ytcljeedmiobepaa.RingTells
open Go.RowKit Go.Gh Go.WideShapes Go.ChangeShapes Go.ChangeAt Go.Deep Go.Proofs.Ytcljeedmiobepaa.Nod Go.Proofs.Ytcljeedmiobepaa.Rng
set_option linter.unusedVariables false
def IsNode (w : World) (v : Value) : Prop := ∃ x, NdV w v x
section
variable {H : Type} {enc : TypeId × Value → H} {W : World} {base b0 : Nat} {r : Reach} {spare : Nat → Bool} {held : Bool} {v : Value} {d : DataW H} {ps : List MemPlace}
set_option maxRecDepth 100000 in
theorem isNode_of (hv : Value.okWide Try.prog W r b0 25 v) (hd : DataW.Trod enc Try.prog W base spare held 25 v d ps) (hs : ∀ n ∈ d.weights Try.prog 25, n ≤ reachBytes) : IsNode W v := by
  obtain ⟨cs, rfl, hsz⟩ := okWide_struct Try.underlying25 hv
  obtain ⟨fuel, hf⟩ := hd
  rw [kCl.2.1] at hsz
  have hf' : DataW.trod enc Try.prog W base spare held fuel 25 cs.toList = some (d, ps) := by simpa [Value.cells] using hf
  obtain ⟨c0, c1, e⟩ := two (c := cs.toList) (by simpa using hsz)
  rw [e] at hf'
  obtain ⟨x, t, e2, ht⟩ := trod_node hf'
  have : cs = #[.string x.nm, t] := by
    rw [← e] at e2
    have := congrArg List.toArray e2
    simpa using this
  exact ⟨x, t, by rw [this], ht⟩
end
theorem sp_zero {w : World} {v : Value} (h : Sp NdR 2 w v []) : ∃ ao c, v = .slice ao 0 c := by
  obtain ⟨ao, c, e, -, -⟩ := h.shape
  exact ⟨ao, c, e⟩
theorem ss_zero {w : World} {v : Value} (h : Ss w v []) : ∃ ao c, v = .slice ao 0 c := by
  obtain ⟨ao, c, e, -, -, -⟩ := Sl.shape h
  exact ⟨ao, c, e⟩
set_option maxHeartbeats 16000000 in
set_option maxRecDepth 100000 in
theorem walk (v0 v1 v2 v3 v4 : Value) (w : World) (h0 : IsNodes w v0) (h1 : IsInt .u64 w v1) (h2 : IsInt .i64 w v2) (h3 : IsString w v3) (h4 : IsNode w v4) :
    Calls Try.prog 9 #[v0, v1, v2, v3, v4] w fun e w' => e = .returned (.bool true) ∧ Below w.heap.size w w' := by
  obtain ⟨L, hL⟩ := h0
  obtain ⟨at', rfl, hat⟩ := h1
  obtain ⟨N, rfl, hN⟩ := h2
  obtain ⟨nm, rfl, -⟩ := h3
  obtain ⟨⟨xn, xk⟩, xt, rfl, hxt⟩ := h4
  dsimp only at hxt
  have hat := wf_u64 hat
  have hN := wf_i64 hN
  obtain ⟨ao, c, rfl, hnc, hc⟩ := hL.shape
  obtain ⟨n, hn⟩ : ∃ n, L.length = n := ⟨_, rfl⟩
  rw [hn] at hL hnc ⊢
  obtain ⟨xo, xc, rfl, -, -, -⟩ := hxt.1.shape
  have HNN := Lib.hid hn
  have HL := Lib.hid hL
  have HX := Lib.hid hxt
  obtain ⟨E, hE⟩ : ∃ E, nodesF L = E := ⟨_, rfl⟩
  have HE := Lib.hid hE
  obtain ⟨J, hJ⟩ : ∃ J, joinF L ⟨xn, xk⟩ = J := ⟨_, rfl⟩
  have HJ := Lib.hid hJ
  obtain ⟨H, hH⟩ : ∃ H, hasN L nm = H := ⟨_, rfl⟩
  have HH := Lib.hid hH
  obtain ⟨SV, hSV⟩ : ∃ SV, shareR (pls L) (ow1 L) nm = SV := ⟨_, rfl⟩
  have HSV := Lib.hid hSV
  have HTW := Lib.hid (tkw_of hL)
  clear hn hL hxt hE hJ hH hSV
  obtain ⟨wA, hwA⟩ : ∃ wA, wA = w.alloc (Obj.cells #[.string xn, .slice xo xk.length xc] 25) := ⟨_, rfl⟩
  have hb1 : wA.heap[w.heap.size]? = some (.cells #[.string xn, .slice xo xk.length xc] 25 (0, 0)) := by rw [hwA]; exact heap_alloc_new w _
  have hBA : Below w.heap.size w wA := by rw [hwA]; exact (Below.refl _ _).alloc (Nat.le_refl _) _
  have hl1 : w.heap.size < wA.heap.size := (Array.getElem?_eq_some_iff.1 hb1).1
  have HBX : Hid (∀ w4 : World, Below wA.heap.size wA w4 → w4.heap[w.heap.size]? = some (.cells #[.string xn, .slice xo xk.length xc] 25 (0, 0))) := Lib.hid (fun w4 h => (h.block _ hl1).trans hb1)
  have HXA : Hid (∀ w4 : World, Below wA.heap.size wA w4 → NdV w4 (.agg #[.string xn, .slice xo xk.length xc]) ⟨xn, xk⟩) := Lib.hid (fun w4 h => ⟨_, rfl, (HX.out.below hBA).below h⟩)
  have HLA : Hid (∀ w4 : World, Below wA.heap.size wA w4 → Sp NdR 2 w4 (.slice ao n c) L) := Lib.hid (fun w4 h => (HL.out.below ndR_mono hBA).below ndR_mono h)
  have HWB : Hid (∀ w4 : World, Below wA.heap.size wA w4 → Below w.heap.size w w4) := Lib.hid (fun w4 h => hBA.trans (h.mono (Nat.le_of_lt hl1)))
  clear hb1 hBA hl1
  go_enter Try.func9, Try.ntmps9
  go_upto_region 1 with (fail)
  rw [← hwA]
  generalize hbxe : w.heap.size = bx at *
  have HBE := Lib.hid hbxe
  clear hwA hbxe
  go_wp2_with fail
  refine (owners_any _ L at' N _ (HLA.out _ (Below.refl _ _)) hN.2).mono ?_
  rintro e w1 ⟨vo, lo, ko, rfl, HSO, hb1, hpo⟩
  have HB1 := Lib.hid hb1
  have HPO := Lib.hid hpo
  have HSO1 := Lib.hid HSO
  obtain ⟨oo, oc, rfl, -, -, -⟩ := Sl.shape HSO
  clear HSO hb1 hpo
  go_wp2_with fail
  refine (share_any _ L nm _ (HLA.out _ HB1.out)).mono ?_
  rintro e w2 ⟨s, ks, rfl, hb2, hps⟩
  have HB2 := Lib.hid (HB1.out.trans (hb2.mono HB1.out.size))
  have HPS := Lib.hid hps
  have HSO2 := Lib.hid (HSO1.out.below hb2)
  obtain ⟨⟨x0, x1⟩, -⟩ := bx2 (HBX.out _ HB2.out)
  clear hb2 hps HSO1
  go_wp2_with fail
  refine (join_any _ _ L ⟨xn, xk⟩ _ (HLA.out _ HB2.out) (HXA.out _ HB2.out)).mono ?_
  rintro e w3 ⟨va, la, ka, rfl, HSA, hb3, hpa⟩
  have HB3 := Lib.hid (HB2.out.trans (hb3.mono HB2.out.size))
  have HPA := Lib.hid hpa
  have HSO3 := Lib.hid (HSO2.out.below hb3)
  have HSA3 := Lib.hid HSA
  obtain ⟨aa, ac, rfl, -, -⟩ := HSA.shape
  clear hb3 hpa HSO2 HSA x0 x1
  go_wp2_with fail
  refine (leave_any _ L nm _ (HLA.out _ HB3.out)).mono ?_
  rintro e w4 ⟨vb, lb, kb, rfl, HSB, hb4, hpb⟩
  have HB4 := Lib.hid (HB3.out.trans (hb4.mono HB3.out.size))
  have HPB := Lib.hid hpb
  have HSO4 := Lib.hid (HSO3.out.below hb4)
  have HSA4 := Lib.hid (HSA3.out.below ndR_mono hb4)
  have HSB4 := Lib.hid HSB
  obtain ⟨ba, bc, rfl, -, -⟩ := HSB.shape
  clear hb4 hpb HSO3 HSA3 HSB
  go_wp2_with fail
  refine (nodesfault_any _ L _ (HLA.out _ HB4.out)).mono ?_
  rw [HE.out]
  rintro e w5 ⟨rfl, hb5⟩
  have HB5 := Lib.hid (HB4.out.trans (hb5.mono HB4.out.size))
  have HSO5 := Lib.hid (HSO4.out.below hb5)
  have HSA5 := Lib.hid (HSA4.out.below ndR_mono hb5)
  have HSB5 := Lib.hid (HSB4.out.below ndR_mono hb5)
  clear hb5 HSO4 HSA4 HSB4
  go_wp2_with fail
  refine (check_any _ L _ (HLA.out _ HB5.out)).mono ?_
  rw [HE.out]
  rintro e w6 ⟨rfl, hb6⟩
  have HB6 := Lib.hid (HB5.out.trans (hb6.mono HB5.out.size))
  have HSO6 := Lib.hid (HSO5.out.below hb6)
  have HSA6 := Lib.hid (HSA5.out.below ndR_mono hb6)
  have HSB6 := Lib.hid (HSB5.out.below ndR_mono hb6)
  clear hb6 HSO5 HSA5 HSB5
  have hEE : (E != E) = false := by simp
  rw [HE.out] at HPO HPS HPB
  rw [HJ.out] at HPA
  by_cases hz : E = 0
  case neg =>
    have t1 : (E != 0) = true := by rw [bne_iff_ne]; exact hz
    have hJF : J = E := by rw [← HJ.out]; unfold joinF; rw [HE.out, if_pos hz]
    have p1 := HPO.out
    have p2 := HPS.out
    have p3 := HPA.out
    have p4 := HPB.out
    rw [if_pos hz] at p1 p2 p4
    rw [hJF, if_pos hz] at p3
    obtain ⟨rfl, rfl⟩ := p1
    obtain ⟨rfl, rfl⟩ := p2
    obtain ⟨rfl, rfl⟩ := p3
    obtain ⟨rfl, rfl⟩ := p4
    clear hz hJF HPO HPS HPA HPB
    go_wp2_with fail
    go_ret
    exact ⟨rfl, by rw [HBE.out]; exact HWB.out _ HB6.out⟩
  subst hz
  have hp1 : (N < 0 ∧ lo = [] ∧ ko = 1) ∨ (0 ≤ N ∧ lo = owF L at' N.toNat ∧ ko = 0) := by
    have := HPO.out
    rw [if_neg (by simp)] at this
    by_cases hn : N < 0
    · rw [if_pos hn] at this
      exact Or.inl ⟨hn, this⟩
    · rw [if_neg hn] at this
      exact Or.inr ⟨by omega, this⟩
  clear HPO
  have HL100 : Hid (L.length ≤ 100) := Lib.hid (by have := (nodes_zero HE.out).1; omega)
  -- the owners
  rcases hp1 with ⟨hN0, rfl, rfl⟩ | ⟨hN0, rfl, rfl⟩
  · have tN : decide (N < 0) = true := decide_eq_true hN0
    obtain ⟨wz, rfl⟩ : ∃ wz, wz = w6 := ⟨_, rfl⟩
    have HBZ := Lib.hid HB6.out
    have HSAZ := Lib.hid HSA6.out
    have HSBZ := Lib.hid HSB6.out
    obtain ⟨⟨x0, x1⟩, -⟩ := bx2 (HBX.out _ HBZ.out)
    clear HB6 HSA6 HSB6
    go_wp2_with fail
    refine (joinfault_any _ _ L ⟨xn, xk⟩ _ (HLA.out _ HBZ.out) (HXA.out _ HBZ.out)).mono ?_
    rw [HJ.out]
    rintro e wj ⟨rfl, hbj⟩
    have HBJ := Lib.hid (HBZ.out.trans (hbj.mono HBZ.out.size))
    have HSAJ := Lib.hid (HSAZ.out.below ndR_mono hbj)
    have HSBJ := Lib.hid (HSBZ.out.below ndR_mono hbj)
    obtain ⟨⟨b0, b1⟩, -⟩ := bx2 (HBX.out _ HBJ.out)
    clear hbj x0 x1
    by_cases hJ0 : J = 0
    · subst hJ0
      have p := HPA.out
      rw [if_neg (by simp)] at p
      obtain ⟨rfl, rfl⟩ := p
      go_wp2_with fail
      refine (with_any _ _ L ⟨xn, xk⟩ _ (HLA.out _ HBJ.out) (HXA.out _ HBJ.out) HL100.out).mono ?_
      rintro e wk ⟨vk, rfl, hsk, hbk⟩
      have HBK := Lib.hid (HBJ.out.trans (hbk.mono HBJ.out.size))
      have HSAK := Lib.hid (HSAJ.out.below ndR_mono hbk)
      have HSBK := Lib.hid (HSBJ.out.below ndR_mono hbk)
      have HSK := Lib.hid hsk
      obtain ⟨kk, kc, rfl, -, -⟩ := hsk.shape
      clear hsk hbk
      go_wp2_with fail
      refine (samenodes_any _ _ (withN L ⟨xn, xk⟩) _ HSAK.out HSK.out).mono ?_
      rintro e wy ⟨rfl, hby⟩
      have HBY := Lib.hid (HBK.out.trans (hby.mono HBK.out.size))
      have HSBY := Lib.hid (HSBK.out.below ndR_mono hby)
      clear hby
      go_wp2_with fail
      refine (has_any _ L nm _ (HLA.out _ HBY.out)).mono ?_
      rw [HH.out]
      rintro e wh ⟨rfl, hbh⟩
      have HBH := Lib.hid (HBY.out.trans (hbh.mono HBY.out.size))
      have HSBH := Lib.hid (HSBY.out.below ndR_mono hbh)
      clear hbh
      cases H with
      | false =>
        have p1 := HPS.out
        have p2 := HPB.out
        rw [if_neg (by simp), if_pos HH.out] at p1 p2
        obtain ⟨rfl, rfl⟩ := p1
        obtain ⟨rfl, rfl⟩ := p2
        go_wp2_with fail
        go_ret
        exact ⟨rfl, by rw [HBE.out]; exact HWB.out _ HBH.out⟩
      | true =>
        have p1 := HPS.out
        have p2 := HPB.out
        rw [if_neg (by simp), if_neg (by rw [HH.out]; simp)] at p1 p2
        obtain ⟨hs1, rfl⟩ := p1
        obtain ⟨rfl, rfl⟩ := p2
        rw [share_both HE.out HTW.out nm, HSV.out] at hs1
        subst hs1
        go_wp2_with fail
        refine (shareof_any _ L nm _ (HLA.out _ HBH.out) HE.out).mono ?_
        rw [HSV.out]
        rintro e wi ⟨rfl, hbi⟩
        have HBI := Lib.hid (HBH.out.trans (hbi.mono HBH.out.size))
        have HSBI := Lib.hid (HSBH.out.below ndR_mono hbi)
        clear hbi
        go_wp2_with fail
        refine (without_any _ L nm _ (HLA.out _ HBI.out) HL100.out).mono ?_
        rintro e wm ⟨vm, rfl, hom, hbm⟩
        have HBM := Lib.hid (HBI.out.trans (hbm.mono HBI.out.size))
        have HSBM := Lib.hid (HSBI.out.below ndR_mono hbm)
        have HSM := Lib.hid (hom.sp.weaken ndA_ndR)
        obtain ⟨mo, mc, rfl, -, -⟩ := hom.shape
        clear hom hbm
        go_wp2_with fail
        refine (samenodes_any _ _ (outN L nm) _ HSBM.out HSM.out).mono ?_
        rintro e wr ⟨rfl, hbr⟩
        have HBR := Lib.hid (HBM.out.trans (hbr.mono HBM.out.size))
        clear hbr
        go_wp2_with fail
        go_ret
        exact ⟨rfl, by rw [HBE.out]; exact HWB.out _ HBR.out⟩
    · have p := HPA.out
      rw [if_pos hJ0] at p
      have tJ : (J != 0) = true := by rw [bne_iff_ne]; exact hJ0
      obtain ⟨rfl, hka⟩ := p
      subst hka
      have HBY := Lib.hid HBJ.out
      have HSBY := Lib.hid HSBJ.out
      clear hJ0
      go_wp2_with fail
      refine (has_any _ L nm _ (HLA.out _ HBY.out)).mono ?_
      rw [HH.out]
      rintro e wh ⟨rfl, hbh⟩
      have HBH := Lib.hid (HBY.out.trans (hbh.mono HBY.out.size))
      have HSBH := Lib.hid (HSBY.out.below ndR_mono hbh)
      clear hbh
      cases H with
      | false =>
        have p1 := HPS.out
        have p2 := HPB.out
        rw [if_neg (by simp), if_pos HH.out] at p1 p2
        obtain ⟨rfl, rfl⟩ := p1
        obtain ⟨rfl, rfl⟩ := p2
        go_wp2_with fail
        go_ret
        exact ⟨rfl, by rw [HBE.out]; exact HWB.out _ HBH.out⟩
      | true =>
        have p1 := HPS.out
        have p2 := HPB.out
        rw [if_neg (by simp), if_neg (by rw [HH.out]; simp)] at p1 p2
        obtain ⟨hs1, rfl⟩ := p1
        obtain ⟨rfl, rfl⟩ := p2
        rw [share_both HE.out HTW.out nm, HSV.out] at hs1
        subst hs1
        go_wp2_with fail
        refine (shareof_any _ L nm _ (HLA.out _ HBH.out) HE.out).mono ?_
        rw [HSV.out]
        rintro e wi ⟨rfl, hbi⟩
        have HBI := Lib.hid (HBH.out.trans (hbi.mono HBH.out.size))
        have HSBI := Lib.hid (HSBH.out.below ndR_mono hbi)
        clear hbi
        go_wp2_with fail
        refine (without_any _ L nm _ (HLA.out _ HBI.out) HL100.out).mono ?_
        rintro e wm ⟨vm, rfl, hom, hbm⟩
        have HBM := Lib.hid (HBI.out.trans (hbm.mono HBI.out.size))
        have HSBM := Lib.hid (HSBI.out.below ndR_mono hbm)
        have HSM := Lib.hid (hom.sp.weaken ndA_ndR)
        obtain ⟨mo, mc, rfl, -, -⟩ := hom.shape
        clear hom hbm
        go_wp2_with fail
        refine (samenodes_any _ _ (outN L nm) _ HSBM.out HSM.out).mono ?_
        rintro e wr ⟨rfl, hbr⟩
        have HBR := Lib.hid (HBM.out.trans (hbr.mono HBM.out.size))
        clear hbr
        go_wp2_with fail
        go_ret
        exact ⟨rfl, by rw [HBE.out]; exact HWB.out _ HBR.out⟩
  · have tN : decide (N < 0) = false := decide_eq_false (by omega)
    obtain ⟨NN, rfl⟩ : ∃ NN : Nat, N = NN := ⟨N.toNat, by omega⟩
    rw [Int.toNat_natCast] at HSO6
    go_wp2_with fail
    refine (ownersof_any _ L at' NN _ (HLA.out _ HB6.out) HE.out hat hN.2).mono ?_
    rintro e w7 ⟨v7, rfl, hs7, hb7⟩
    have HB7 := Lib.hid (HB6.out.trans (hb7.mono HB6.out.size))
    have HSO7 := Lib.hid (HSO6.out.below hb7)
    have HS7 := Lib.hid hs7
    have HSA7 := Lib.hid (HSA6.out.below ndR_mono hb7)
    have HSB7 := Lib.hid (HSB6.out.below ndR_mono hb7)
    obtain ⟨ro, rc, rfl, -, -, -⟩ := Sl.shape hs7
    clear hb7 hs7
    go_wp2_with fail
    refine (equalS_any _ _ (owF L at' NN) _ HSO7.out HS7.out).mono ?_
    rintro e wz ⟨rfl, q, hq⟩
    have hbz : Below w7.heap.size w7 wz := by rw [hq]; exact below_drewN (Below.refl _ _) _
    have HBZ := Lib.hid (HB7.out.trans (hbz.mono HB7.out.size))
    have HSAZ := Lib.hid (HSA7.out.below ndR_mono hbz)
    have HSBZ := Lib.hid (HSB7.out.below ndR_mono hbz)
    obtain ⟨⟨x0, x1⟩, -⟩ := bx2 (HBX.out _ HBZ.out)
    clear hbz hq HB6 HSA6 HSB6 HB7 HSA7 HSB7
    go_wp2_with fail
    refine (joinfault_any _ _ L ⟨xn, xk⟩ _ (HLA.out _ HBZ.out) (HXA.out _ HBZ.out)).mono ?_
    rw [HJ.out]
    rintro e wj ⟨rfl, hbj⟩
    have HBJ := Lib.hid (HBZ.out.trans (hbj.mono HBZ.out.size))
    have HSAJ := Lib.hid (HSAZ.out.below ndR_mono hbj)
    have HSBJ := Lib.hid (HSBZ.out.below ndR_mono hbj)
    obtain ⟨⟨b0, b1⟩, -⟩ := bx2 (HBX.out _ HBJ.out)
    clear hbj x0 x1
    by_cases hJ0 : J = 0
    · subst hJ0
      have p := HPA.out
      rw [if_neg (by simp)] at p
      obtain ⟨rfl, rfl⟩ := p
      go_wp2_with fail
      refine (with_any _ _ L ⟨xn, xk⟩ _ (HLA.out _ HBJ.out) (HXA.out _ HBJ.out) HL100.out).mono ?_
      rintro e wk ⟨vk, rfl, hsk, hbk⟩
      have HBK := Lib.hid (HBJ.out.trans (hbk.mono HBJ.out.size))
      have HSAK := Lib.hid (HSAJ.out.below ndR_mono hbk)
      have HSBK := Lib.hid (HSBJ.out.below ndR_mono hbk)
      have HSK := Lib.hid hsk
      obtain ⟨kk, kc, rfl, -, -⟩ := hsk.shape
      clear hsk hbk
      go_wp2_with fail
      refine (samenodes_any _ _ (withN L ⟨xn, xk⟩) _ HSAK.out HSK.out).mono ?_
      rintro e wy ⟨rfl, hby⟩
      have HBY := Lib.hid (HBK.out.trans (hby.mono HBK.out.size))
      have HSBY := Lib.hid (HSBK.out.below ndR_mono hby)
      clear hby
      go_wp2_with fail
      refine (has_any _ L nm _ (HLA.out _ HBY.out)).mono ?_
      rw [HH.out]
      rintro e wh ⟨rfl, hbh⟩
      have HBH := Lib.hid (HBY.out.trans (hbh.mono HBY.out.size))
      have HSBH := Lib.hid (HSBY.out.below ndR_mono hbh)
      clear hbh
      cases H with
      | false =>
        have p1 := HPS.out
        have p2 := HPB.out
        rw [if_neg (by simp), if_pos HH.out] at p1 p2
        obtain ⟨rfl, rfl⟩ := p1
        obtain ⟨rfl, rfl⟩ := p2
        go_wp2_with fail
        go_ret
        exact ⟨rfl, by rw [HBE.out]; exact HWB.out _ HBH.out⟩
      | true =>
        have p1 := HPS.out
        have p2 := HPB.out
        rw [if_neg (by simp), if_neg (by rw [HH.out]; simp)] at p1 p2
        obtain ⟨hs1, rfl⟩ := p1
        obtain ⟨rfl, rfl⟩ := p2
        rw [share_both HE.out HTW.out nm, HSV.out] at hs1
        subst hs1
        go_wp2_with fail
        refine (shareof_any _ L nm _ (HLA.out _ HBH.out) HE.out).mono ?_
        rw [HSV.out]
        rintro e wi ⟨rfl, hbi⟩
        have HBI := Lib.hid (HBH.out.trans (hbi.mono HBH.out.size))
        have HSBI := Lib.hid (HSBH.out.below ndR_mono hbi)
        clear hbi
        go_wp2_with fail
        refine (without_any _ L nm _ (HLA.out _ HBI.out) HL100.out).mono ?_
        rintro e wm ⟨vm, rfl, hom, hbm⟩
        have HBM := Lib.hid (HBI.out.trans (hbm.mono HBI.out.size))
        have HSBM := Lib.hid (HSBI.out.below ndR_mono hbm)
        have HSM := Lib.hid (hom.sp.weaken ndA_ndR)
        obtain ⟨mo, mc, rfl, -, -⟩ := hom.shape
        clear hom hbm
        go_wp2_with fail
        refine (samenodes_any _ _ (outN L nm) _ HSBM.out HSM.out).mono ?_
        rintro e wr ⟨rfl, hbr⟩
        have HBR := Lib.hid (HBM.out.trans (hbr.mono HBM.out.size))
        clear hbr
        go_wp2_with fail
        go_ret
        exact ⟨rfl, by rw [HBE.out]; exact HWB.out _ HBR.out⟩
    · have p := HPA.out
      rw [if_pos hJ0] at p
      have tJ : (J != 0) = true := by rw [bne_iff_ne]; exact hJ0
      obtain ⟨rfl, hka⟩ := p
      subst hka
      have HBY := Lib.hid HBJ.out
      have HSBY := Lib.hid HSBJ.out
      clear hJ0
      go_wp2_with fail
      refine (has_any _ L nm _ (HLA.out _ HBY.out)).mono ?_
      rw [HH.out]
      rintro e wh ⟨rfl, hbh⟩
      have HBH := Lib.hid (HBY.out.trans (hbh.mono HBY.out.size))
      have HSBH := Lib.hid (HSBY.out.below ndR_mono hbh)
      clear hbh
      cases H with
      | false =>
        have p1 := HPS.out
        have p2 := HPB.out
        rw [if_neg (by simp), if_pos HH.out] at p1 p2
        obtain ⟨rfl, rfl⟩ := p1
        obtain ⟨rfl, rfl⟩ := p2
        go_wp2_with fail
        go_ret
        exact ⟨rfl, by rw [HBE.out]; exact HWB.out _ HBH.out⟩
      | true =>
        have p1 := HPS.out
        have p2 := HPB.out
        rw [if_neg (by simp), if_neg (by rw [HH.out]; simp)] at p1 p2
        obtain ⟨hs1, rfl⟩ := p1
        obtain ⟨rfl, rfl⟩ := p2
        rw [share_both HE.out HTW.out nm, HSV.out] at hs1
        subst hs1
        go_wp2_with fail
        refine (shareof_any _ L nm _ (HLA.out _ HBH.out) HE.out).mono ?_
        rw [HSV.out]
        rintro e wi ⟨rfl, hbi⟩
        have HBI := Lib.hid (HBH.out.trans (hbi.mono HBH.out.size))
        have HSBI := Lib.hid (HSBH.out.below ndR_mono hbi)
        clear hbi
        go_wp2_with fail
        refine (without_any _ L nm _ (HLA.out _ HBI.out) HL100.out).mono ?_
        rintro e wm ⟨vm, rfl, hom, hbm⟩
        have HBM := Lib.hid (HBI.out.trans (hbm.mono HBI.out.size))
        have HSBM := Lib.hid (HSBI.out.below ndR_mono hbm)
        have HSM := Lib.hid (hom.sp.weaken ndA_ndR)
        obtain ⟨mo, mc, rfl, -, -⟩ := hom.shape
        clear hom hbm
        go_wp2_with fail
        refine (samenodes_any _ _ (outN L nm) _ HSBM.out HSM.out).mono ?_
        rintro e wr ⟨rfl, hbr⟩
        have HBR := Lib.hid (HBM.out.trans (hbr.mono HBM.out.size))
        clear hbr
        go_wp2_with fail
        go_ret
        exact ⟨rfl, by rw [HBE.out]; exact HWB.out _ HBR.out⟩
end Go.Proofs.Ytcljeedmiobepaa.RingTells
