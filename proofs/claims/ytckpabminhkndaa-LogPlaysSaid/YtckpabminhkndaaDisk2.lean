/-
  The walks of a disk's methods: both Appends, Sync, Bytes, Records.
-/
import Derived.Test.YtckpabminhkndaaDisk1
namespace Go.Proofs.Ytckpabminhkndaa.Disk
open Go.RowKit Go.Gh Go.WideShapes Go.Proofs.Ytckpabminhkndaa.Bits Go.Proofs.Ytckpabminhkndaa.Log
set_option linter.unusedVariables false
set_option maxHeartbeats 4000000 in
set_option maxRecDepth 100000 in
theorem append_any (v u : Value) (n B h s : Nat) (l D : List Int) (w : World) (hv : Sl w 1 v n (l.map (Value.int .u8))) (hl : l.length = n) (hb : BytesL l) (hd : DK w 65 B h u D s) (hD : D.length ≤ 30000) (hB : B ≤ w.heap.size) :
    Calls Try.prog 27 #[.pointer (some ⟨h, 0, none⟩), v] w (PutPost w 65 B h u D l s) := by
  have HD := Lib.hid hd
  have HL := Lib.hid hl
  by_cases hbig : 2000 < n
  · have HP : Hid (putS D l = (2, D)) := Lib.hid (by unfold putS; rw [if_pos (by rw [hl]; exact hbig)])
    have HV := Lib.hid hv
    clear hd hl hv
    go_enter Try.func27, Try.ntmps27
    go_wp2_with fail
    refine (frame_large _ n l _ HV.out hbig).mono ?_
    rintro e w1 ⟨rfl, hq⟩
    have HQ := Lib.hid hq
    clear hq
    go_wp2_with fail
    go_ret
    rw [HQ.out]
    exact put_still HP.out HD.out hB (Below.refl _ _)
  have hsmall : n ≤ 2000 := by omega
  have HV := Lib.hid hv
  have HB := Lib.hid hb
  have HFB := Lib.hid (frm_bytes hb (by omega))
  have hfl : (frm l).length ≤ 2100 := by
    have := putI_len 9 (l.length : Int)
    rw [frm_len]; omega
  have hfp : 0 < (frm l).length := by rw [frm_len]; omega
  obtain ⟨F, hF⟩ : ∃ F, (frm l).length = F := ⟨_, rfl⟩
  obtain ⟨N, hN⟩ : ∃ N, D.length = N := ⟨_, rfl⟩
  have HF := Lib.hid hF
  have HN := Lib.hid hN
  rw [hF] at hfl hfp
  rw [hN] at hD
  have HPS : Hid (putS D l = if 30000 < N + F then (9, D) else (0, D ++ frm l)) := Lib.hid (by unfold putS; rw [if_neg (by omega), hN, hF])
  have hlt := Lib.hid (lt_of_some hd.1)
  clear hd hl hv hb hF hN
  go_enter Try.func27, Try.ntmps27
  go_wp2_with fail
  refine (frame_any _ n l _ HV.out HL.out HB.out hsmall).mono ?_
  rintro e w1 ⟨fv, rfl, hown1, hb1⟩
  rw [HF.out] at hown1
  have HD1 := Lib.hid (HD.out.below hb1)
  have hsz1 := hb1.size
  have hge : ∀ b, fv.ownBlock = some b → w.heap.size ≤ b := fun b hb => (hown1.lt b hb).1
  have HO1 := Lib.hid hown1
  obtain ⟨fo, fc, rfl, _, _, _⟩ := own_shape hown1
  obtain ⟨x0, x1, f0, f1⟩ := box2 HD1.out.1
  obtain ⟨ao, c, rfl, hNc, hc⟩ : ∃ ao c, u = .slice ao N c ∧ N ≤ c ∧ c ≤ 9223372036854775807 := by
    obtain ⟨ao, c, h1, h2, h3, _⟩ := own_shape HD1.out.2.1
    rw [HN.out] at h1 h2
    exact ⟨ao, c, h1, h2, h3⟩
  have HOU : Hid (w1.ownsRow B 5 1 (.slice ao N c) N (D.map (Value.int .u8))) := Lib.hid (by rw [← HN.out]; have := HD1.out.2.1; rw [← HN.out] at this; exact this)
  have hHs := Lib.hid hsz1
  clear hown1 hge
  by_cases hfull : 30000 < N + F
  · have HP : Hid (putS D l = (9, D)) := Lib.hid (by rw [HPS.out, if_pos hfull])
    clear HPS
    go_wp2_with fail
    go_ret
    exact put_still HP.out HD.out hB hb1
  have HP : Hid (putS D l = (0, D ++ frm l)) := Lib.hid (by rw [HPS.out, if_neg hfull])
  have HB1 := Lib.hid hb1
  clear HPS
  have hou := HOU.out
  have hsf := own_sl HO1.out
  go_wp2_with (at_builtin; refine app_lies elU8 rfl _ _ rfl hou rfl rfl hsf (ints_one _ _) hfp ?c1 ?c2 ?c3 ?_)
  case c1 => omega
  case c2 => omega
  case c3 => omega
  intro g cap w2 hown2 hg2 hgb _
  have hne := own_block_ne hou HD1.out.1 (by decide)
  obtain ⟨z0, z1, y0, y1⟩ := box2 (grown_block2 hg2 hne HD1.out.1)
  have HO2 := Lib.hid hown2
  have HG2 := Lib.hid hg2
  have HGB := Lib.hid hgb
  clear hown2 hg2 hgb hou hsf hne x0 x1 f0 f1
  go_wp2_with fail
  go_ret
  have hfin := put_done (w2 := w2) (g := g) (cap := cap) (by decide) HP.out HD.out HFB.out HB1.out hB (by rw [HN.out, HF.out]; exact HO2.out) HG2.out (by rcases HGB.out with h | h; exact Or.inl h; right; omega)
  rw [HN.out, HF.out] at hfin
  exact hfin
set_option maxHeartbeats 4000000 in
set_option maxRecDepth 100000 in
theorem sync_at (ao : Option Addr) (N c h : Nat) (x : Value) (w : World) (hbox : w.heap[h]? = some (.cells #[.slice ao N c, x] 65 (0, 0))) (hN : N ≤ 40000) :
    Calls Try.prog 29 #[.pointer (some ⟨h, 0, none⟩)] w fun e w' => e = .returned (.tuple #[]) ∧ w' = w.setCell ⟨h, 1, none⟩ (.int .i64 N) := by
  obtain ⟨x0, x1, f0, f1⟩ := box2 hbox
  clear hbox
  go_enter Try.func29, Try.ntmps29
  go_wp2_with fail
  go_end0
  exact ⟨rfl, rfl⟩
theorem sync_any (u : Value) (B h s : Nat) (D : List Int) (w : World) (hd : DK w 65 B h u D s) (hD : D.length ≤ 40000) :
    Calls Try.prog 29 #[.pointer (some ⟨h, 0, none⟩)] w fun e w' => e = .returned (.tuple #[]) ∧ w' = w.setCell ⟨h, 1, none⟩ (.int .i64 D.length) := by
  obtain ⟨ao, c, rfl, _⟩ := own_shape hd.2.1
  exact sync_at ao D.length c h _ w hd.1 hD
/-- What is behind a store of the safe length. -/
theorem synced {w : World} {T : TypeId} {B h s : Nat} {u : Value} {D : List Int} (hd : DK w T B h u D s) (hT : T ≠ 5) (N : Nat) (hN : N ≤ D.length) (hB : B ≤ w.heap.size) : DKPost w T B h u D N (w.setCell ⟨h, 1, none⟩ (.int .i64 N)) := by
  obtain ⟨a1, a2, a3, a4, a5⟩ := hd
  have hne := own_block_ne a2 a1 (Ne.symm hT)
  refine ⟨u, ⟨row_setCell 1 _ a1, ownsRow_setCell_other a2 (a := ⟨h, 1, none⟩) hne _, a3, a4, hN⟩, (Below.refl _ _).setCell (p := ⟨h, 1, none⟩) a3 _, ?_, ?_, ?_⟩
  · simp only [World.size_setCell]; omega
  · intro x hx hxh _
    exact Below.heap_setCell w ⟨h, 1, none⟩ _ x (fun e => hxh e)
  · intro b hb
    exact ⟨Or.inl hb, by simp only [World.size_setCell]; exact (a2.lt b hb).2⟩
theorem bytes_any (u : Value) (B h s : Nat) (D : List Int) (w : World) (hd : DK w 65 B h u D s) (hD : D.length ≤ 30000) :
    Calls Try.prog 32 #[.pointer (some ⟨h, 0, none⟩)] w fun e w' => ∃ v', e = .returned v' ∧ w'.ownsRow w.heap.size 5 1 v' D.length (D.map (Value.int .u8)) ∧ Below w.heap.size w w' := by
  have HS := Lib.hid (own_sl hd.2.1)
  obtain ⟨x0, x1, f0, f1⟩ := box2 hd.1
  clear hd
  go_enter Try.func32, Try.ntmps32
  go_wp2_with fail
  refine (clone_any u D.length D w HS.out (by omega)).mono ?_
  rintro e w1 ⟨v', rfl, h1, h2⟩
  go_wp2_with fail
  go_ret
  exact ⟨_, rfl, h1, h2⟩
def RecPost (l : List Int) (w : World) (e : Ending) (w' : World) : Prop :=
  ∃ u vs, e = .returned u ∧ Sl w' 1 u (cutF (l.length + 1) l).1.length vs ∧ RowsT w' w.heap.size vs (cutF (l.length + 1) l).1 ∧ Below w.heap.size w w'
theorem records_any (u : Value) (B h s : Nat) (D : List Int) (w : World) (hd : DK w 65 B h u D s) (hD : D.length ≤ 30000) :
    Calls Try.prog 33 #[.pointer (some ⟨h, 0, none⟩)] w (RecPost D w) := by
  have HS := Lib.hid (own_sl hd.2.1)
  have HB := Lib.hid hd.2.2.2.1
  obtain ⟨x0, x1, f0, f1⟩ := box2 hd.1
  clear hd
  go_enter Try.func33, Try.ntmps33
  go_wp2_with fail
  refine (cut_any u D.length D w HS.out rfl HB.out (by omega)).mono ?_
  rintro e w1 ⟨v', vs, rfl, h1, h2, h3⟩
  go_wp2_with fail
  go_ret
  exact ⟨_, _, rfl, h1, h2, h3⟩
end Go.Proofs.Ytckpabminhkndaa.Disk
