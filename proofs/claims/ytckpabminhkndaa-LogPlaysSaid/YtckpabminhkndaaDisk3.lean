/-
  The walks of the document's Append, and of both Crashes.
-/
import Derived.Test.YtckpabminhkndaaDisk2
namespace Go.Proofs.Ytckpabminhkndaa.Disk
open Go.RowKit Go.Gh Go.WideShapes Go.Proofs.Ytckpabminhkndaa.Bits Go.Proofs.Ytckpabminhkndaa.Log
set_option linter.unusedVariables false
theorem put_new {w w3 : World} {T : TypeId} {B h s g cap : Nat} {u : Value} {D l : List Int} (hT : T ≠ 5) (hp : putS D l = (0, D ++ frm l)) (hd : DK w T B h u D s) (hfb : BytesL (frm l)) (hB : B ≤ w.heap.size) (hb : Below w.heap.size w w3)
    (ho : w3.ownsRow w.heap.size 5 1 (.slice (some ⟨g, 0, none⟩) (D.length + (frm l).length) cap) (D.length + (frm l).length) (D.map (Value.int .u8) ++ (frm l).map (Value.int .u8))) :
    PutPost w T B h u D l s (.returned (.int .i64 0)) (w3.setCell ⟨h, 0, none⟩ (.slice (some ⟨g, 0, none⟩) (D.length + (frm l).length) cap)) := by
  obtain ⟨a1, a2, a3, a4, a5⟩ := hd
  have hlt := lt_of_some a1
  have x1 := (hb.block h hlt).trans a1
  obtain ⟨hg1, hg2⟩ := ho.lt g rfl
  have hsz := hb.size
  unfold PutPost
  rw [hp]
  refine ⟨rfl, .slice (some ⟨g, 0, none⟩) (D.length + (frm l).length) cap, ⟨?_, ?_, a3, bytesL_append a4 hfb, by show s ≤ (D ++ frm l).length; rw [List.length_append]; omega⟩, ?_, ?_, ?_, ?_⟩
  · exact row_setCell 0 _ x1
  · rw [List.length_append, List.map_append]
    exact own_mono (ownsRow_setCell_other ho (a := ⟨h, 0, none⟩) (by simp [Value.ownBlock]; omega) _) hB
  · exact (hb.mono hB).setCell (p := ⟨h, 0, none⟩) a3 _
  · simp only [World.size_setCell]; omega
  · intro x hx hxh hxu
    rw [Below.heap_setCell w3 ⟨h, 0, none⟩ _ x (fun e => hxh e)]
    exact hb.block x hx
  · intro b hb'
    have : g = b := by simpa [Value.ownBlock] using hb'
    subst this
    exact ⟨Or.inr hg1, by simp only [World.size_setCell]; exact hg2⟩
set_option maxHeartbeats 4000000 in
set_option maxRecDepth 100000 in
theorem rappend_any (v u : Value) (n B h s : Nat) (l D : List Int) (w : World) (hv : Sl w 1 v n (l.map (Value.int .u8))) (hl : l.length = n) (hb : BytesL l) (hd : DK w 47 B h u D s) (hD : D.length ≤ 30000) (hB : B ≤ w.heap.size) :
    Calls Try.prog 28 #[.pointer (some ⟨h, 0, none⟩), v] w (PutPost w 47 B h u D l s) := by
  have HD := Lib.hid hd
  have HL := Lib.hid hl
  obtain ⟨vo, vc, rfl, hvc, hvc2, _⟩ := hv.shape
  by_cases hbig : 2000 < n
  · have HP : Hid (putS D l = (2, D)) := Lib.hid (by unfold putS; rw [if_pos (by rw [hl]; exact hbig)])
    clear hd hl hv
    go_enter Try.func28, Try.ntmps28
    go_wp2_with fail
    go_ret
    exact put_still HP.out HD.out hB (Below.refl _ _)
  have hsmall : n ≤ 2000 := by omega
  have HV := Lib.hid hv
  have HB := Lib.hid hb
  have HFB := Lib.hid (frm_bytes hb (by omega))
  have hfl : (frm l).length ≤ 2100 := by
    have := putI_len 9 (l.length : Int)
    rw [frm_len]; omega
  have hfp : 0 < (frm l).length := by rw [frm_len]; omega
  obtain ⟨F, hF⟩ : ∃ F, (frm l).length = F := ⟨_, rfl⟩
  obtain ⟨N, hN⟩ : ∃ N, D.length = N := ⟨_, rfl⟩
  have HF := Lib.hid hF
  have HN := Lib.hid hN
  rw [hF] at hfl hfp
  rw [hN] at hD
  have HPS : Hid (putS D l = if 30000 < N + F then (9, D) else (0, D ++ frm l)) := Lib.hid (by unfold putS; rw [if_neg (by omega), hN, hF])
  clear hd hl hv hb hF hN
  go_enter Try.func28, Try.ntmps28
  go_wp2_with fail
  refine (framed_any _ n l _ HV.out HL.out HB.out hsmall).mono ?_
  rintro e w1 ⟨fv, rfl, hown1, hb1⟩
  rw [HF.out] at hown1
  have HD1 := Lib.hid (HD.out.below hb1)
  have HO1 := Lib.hid hown1
  obtain ⟨fo, fc, rfl, _, _, _⟩ := own_shape hown1
  obtain ⟨x0, x1, f0, f1⟩ := box2 HD1.out.1
  obtain ⟨ao, c, rfl, hNc, hc⟩ : ∃ ao c, u = .slice ao N c ∧ N ≤ c ∧ c ≤ 9223372036854775807 := by
    obtain ⟨ao, c, h1, h2, h3, _⟩ := own_shape HD1.out.2.1
    rw [HN.out] at h1 h2
    exact ⟨ao, c, h1, h2, h3⟩
  have HSU : Hid (Sl w1 1 (.slice ao N c) N (D.map (Value.int .u8))) := Lib.hid (by rw [← HN.out]; have := own_sl HD1.out.2.1; rw [← HN.out] at this; exact this)
  have hlt1 := Lib.hid (lt_of_some HD1.out.1)
  clear hown1
  by_cases hfull : 30000 < N + F
  · have HP : Hid (putS D l = (9, D)) := Lib.hid (by rw [HPS.out, if_pos hfull])
    clear HPS
    go_wp2_with fail
    go_ret
    exact put_still HP.out HD.out hB hb1
  have HP : Hid (putS D l = (0, D ++ frm l)) := Lib.hid (by rw [HPS.out, if_neg hfull])
  have HB1 := Lib.hid hb1
  clear HPS
  have hsu := HSU.out
  go_wp2_with (at_builtin; refine wpList_append_copy (w0 := w1) (B := w1.heap.size) elU8 rfl _ _ rfl rfl rfl hsu (ints_one _ _) ?c1 ?c2 (Below.refl _ _) (Nat.le_refl _) ?_)
  case c1 => omega
  case c2 => omega
  intro v2 w2 hown2 hb2
  have HO2 := Lib.hid hown2
  have HB2 := Lib.hid hb2
  obtain ⟨ao2, c2, rfl, _, _, _⟩ := own_shape hown2
  have hsz2 := hb2.size
  have hsf := (own_sl HO1.out).below hb2
  clear hb2
  go_wp2_with (at_builtin; refine app_lies elU8 rfl _ _ rfl hown2 rfl rfl hsf (ints_one _ _) hfp ?c3 ?c4 hsz2 ?_)
  case c3 => omega
  case c4 => omega
  intro g cap w3 hown3 hg3 _ _
  have hb3 : Below w.heap.size w w3 := Below.grown (HB1.out.trans (HB2.out.mono HB1.out.size)) hg3 (Nat.le_trans HB1.out.size hsz2) (fun k hk => Nat.le_trans HB1.out.size (HO2.out.lt k hk).1)
  have hblk := (hb3.block h (lt_of_some HD.out.1)).trans HD.out.1
  obtain ⟨z0, z1, y0, y1⟩ := box2 hblk
  have HO3 := Lib.hid hown3
  have HB3 := Lib.hid hb3
  clear hown3 hown2 hg3 hsf hb3 hsu x0 x1 f0 f1 hblk
  go_wp2_with fail
  go_ret
  have hfin := put_new (w3 := w3) (g := g) (cap := cap) (by decide) HP.out HD.out HFB.out hB HB3.out (by rw [HN.out, HF.out]; exact own_mono HO3.out HB1.out.size)
  rw [HN.out, HF.out] at hfin
  exact hfin
/-- A crash that keeps some bytes. -/
def crS (D : List Int) (s : Nat) (k : Int) : Int × List Int × Nat := if k < 0 ∨ (D.length : Int) - s < k then (1, D, s) else (0, D.take (cutF ((D.take (s + k.toNat)).length + 1) (D.take (s + k.toNat))).2, (cutF ((D.take (s + k.toNat)).length + 1) (D.take (s + k.toNat))).2)
theorem first_le {b rec : List Int} {m : Nat} (h : firstF b = some (rec, m)) : m ≤ b.length := by
  unfold firstF at h
  split at h
  · simp at h
  · rename_i hb
    have := not_or.1 (not_or.1 hb).2
    split at h
    · have h2 := Option.some.inj h
      have h3 : ((takeS 0 0 b).2.1 + (takeS 0 0 b).1 + 8).toNat = m := congrArg Prod.snd h2
      omega
    · simp at h
theorem cut_le : ∀ (f : Nat) (b : List Int), (cutF f b).2 ≤ b.length
  | 0, b => by simp [cutF]
  | f + 1, b => by
    rw [cutF]
    split
    · simp
    · rename_i rec m h
      have h1 := first_le h
      have h2 := cut_le f (b.drop m)
      rw [List.length_drop] at h2
      show m + (cutF f (b.drop m)).2 ≤ b.length
      omega
def CrPost (w : World) (T : TypeId) (B h : Nat) (u : Value) (D : List Int) (s : Nat) (k : Int) (e : Ending) (w' : World) : Prop := e = .returned (.int .i64 (crS D s k).1) ∧ DKPost w T B h u (crS D s k).2.1 (crS D s k).2.2 w'
theorem crash_still {w : World} {T : TypeId} {B h s n : Nat} {u : Value} {D : List Int} {k : Int} (hp : crS D s k = (1, D, s)) (hd : DK w T B h u D s) (hB : B ≤ w.heap.size) : CrPost w T B h u D s k (.returned (.int .i64 1)) (w.drewN n) := by
  unfold CrPost
  rw [hp]
  have hb : Below w.heap.size w (w.drewN n) := below_drewN (Below.refl _ _) n
  exact ⟨rfl, u, hd.below hb, hb.mono hB, Lies.of_below (fun b h => (hd.2.1.lt b h).2) hb⟩
theorem crash_done {w w1 : World} {T : TypeId} {B h s m c N : Nat} {ao : Option Addr} {D : List Int} {k : Int} (hT : T ≠ 5) (hp : crS D s k = (0, D.take m, m)) (hm : m ≤ N) (hN : D.length = N) (hd : DK w T B h (.slice ao N c) D s) (hB : B ≤ w.heap.size) (hb : Below w.heap.size w w1) :
    CrPost w T B h (.slice ao N c) D s k (.returned (.int .i64 0)) ((w1.setCell ⟨h, 0, none⟩ (.slice ao m c)).setCell ⟨h, 1, none⟩ (.int .i64 m)) := by
  obtain ⟨a1, a2, a3, a4, a5⟩ := hd
  subst hN
  have hlt := lt_of_some a1
  have hne := own_block_ne a2 a1 (Ne.symm hT)
  have x1 := (hb.block h hlt).trans a1
  have x2 := row_setCell 0 (.slice ao m c) x1
  have x3 := row_setCell 1 (.int .i64 m) x2
  have hml : (D.take m).length = m := by rw [List.length_take]; omega
  have o1 := own_take (own_below a2 hb) hm
  have hob : ∀ b, (Value.slice ao m c).ownBlock = some b → (Value.slice ao D.length c).ownBlock = some b := by
    intro b hb
    cases ao with
    | none => simp [Value.ownBlock] at hb
    | some a => simpa [Value.ownBlock] using hb
  have hne2 : (Value.slice ao m c).ownBlock ≠ some h := fun e => hne (hob _ e)
  unfold CrPost
  rw [hp]
  refine ⟨rfl, .slice ao m c, ⟨x3, ?_, a3, bytesL_take a4 m, by show m ≤ (D.take m).length; omega⟩, ?_, ?_, ?_, ?_⟩
  · show World.ownsRow _ _ _ _ _ (D.take m).length _
    rw [hml, List.map_take]
    exact ownsRow_setCell_other (ownsRow_setCell_other o1 (a := ⟨h, 0, none⟩) hne2 _) (a := ⟨h, 1, none⟩) hne2 _
  · exact (((hb.mono hB).setCell (p := ⟨h, 0, none⟩) a3 _)).setCell (p := ⟨h, 1, none⟩) a3 _
  · have := hb.size; simp only [World.size_setCell]; omega
  · intro x hx hxh hxu
    rw [Below.heap_setCell _ ⟨h, 1, none⟩ _ x (fun e => hxh e), Below.heap_setCell _ ⟨h, 0, none⟩ _ x (fun e => hxh e)]
    exact hb.block x hx
  · intro b hb'
    have h1 := hob b hb'
    have := hb.size
    have := (a2.lt b h1).2
    exact ⟨Or.inl h1, by simp only [World.size_setCell]; omega⟩
end Go.Proofs.Ytckpabminhkndaa.Disk
