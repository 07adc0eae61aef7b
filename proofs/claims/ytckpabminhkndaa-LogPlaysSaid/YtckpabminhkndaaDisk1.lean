/-
  Disks: what is known of one; the walks of New, Append and Sync.
-/
import Derived.Test.YtckpabminhkndaaLogTells
import Derived.Deep.AppendLies
import Derived.Deep.RegionHeld3
namespace Go.Proofs.Ytckpabminhkndaa.Disk
open Go.RowKit Go.Gh Go.WideShapes Go.Proofs.Ytckpabminhkndaa.Bits Go.Proofs.Ytckpabminhkndaa.Log
set_option linter.unusedVariables false
/-- A disk of the type T lies at h: its bytes are a row of the call's own. -/
def DK (w : World) (T : TypeId) (B h : Nat) (u : Value) (D : List Int) (s : Nat) : Prop :=
  w.heap[h]? = some (.cells #[u, .int .i64 (s : Int)] T (0, 0)) ∧ w.ownsRow B 5 1 u D.length (D.map (Value.int .u8)) ∧ B ≤ h ∧ BytesL D ∧ s ≤ D.length
/-- All but the block h and the block of u lies as it lay; the block of u' is that of u, or is new. -/
def Lies (w w' : World) (h : Nat) (u u' : Value) : Prop :=
  w.heap.size ≤ w'.heap.size ∧ (∀ x, x < w.heap.size → x ≠ h → u.ownBlock ≠ some x → w'.heap[x]? = w.heap[x]?) ∧ ∀ b, u'.ownBlock = some b → (u.ownBlock = some b ∨ w.heap.size ≤ b) ∧ b < w'.heap.size
def DKPost (w : World) (T : TypeId) (B h : Nat) (u : Value) (D : List Int) (s : Nat) (w' : World) : Prop := ∃ u', DK w' T B h u' D s ∧ Below B w w' ∧ Lies w w' h u u'
theorem box2 {w : World} {b : Nat} {T : TypeId} {x y : Value} (h : w.heap[b]? = some (.cells #[x, y] T (0, 0))) : w.cell? ⟨b, 0, none⟩ = some x ∧ w.cell? ⟨b, 1, none⟩ = some y ∧ w.frozen? ⟨b, 0, none⟩ = false ∧ w.frozen? ⟨b, 1, none⟩ = false :=
  ⟨(row_cell 0 x h rfl).1, (row_cell 1 y h rfl).1, (row_cell 0 x h rfl).2, (row_cell 1 y h rfl).2⟩
theorem lt_of_some {w : World} {b : Nat} {o : Obj} (h : w.heap[b]? = some o) : b < w.heap.size := (Array.getElem?_eq_some_iff.1 h).1
theorem own_keep {w w' : World} {B : Nat} {e : TypeId} {size n : Nat} {v : Value} {xs : List Value} (h : w.ownsRow B e size v n xs) (hk : ∀ b, v.ownBlock = some b → w'.heap[b]? = w.heap[b]?) : w'.ownsRow B e size v n xs := by
  refine ⟨h.1, ?_⟩
  rcases h.2 with h | ⟨g, cap, cur, rfl, h1, h2, h3⟩
  · exact Or.inl h
  · exact Or.inr ⟨g, cap, cur, rfl, h1, (hk g rfl).trans h2, h3⟩
theorem own_take {w : World} {B : Nat} {e : TypeId} {n c k : Nat} {ao : Option Addr} {xs : List Value} (h : w.ownsRow B e 1 (.slice ao n c) n xs) (hk : k ≤ n) : w.ownsRow B e 1 (.slice ao k c) k (xs.take k) := by
  refine ⟨by rw [List.length_take, h.1]; omega, ?_⟩
  rcases h.2 with ⟨h1, h2⟩ | ⟨g, cap, cur, h0, h1, h2, h3, h4, h5, h6⟩
  · left
    simp at h1
    obtain ⟨rfl, rfl, rfl⟩ := h1
    obtain rfl : k = 0 := by omega
    exact ⟨rfl, rfl⟩
  · right
    simp at h0
    obtain ⟨rfl, rfl⟩ := h0
    refine ⟨g, c, cur, rfl, h1, h2, by omega, h4, h5, ?_⟩
    rw [← h6, List.take_take]
    congr 1
    omega
/-- Another disk stays. -/
theorem DK.other {w w' : World} {T T' : TypeId} {B h h2 s s2 : Nat} {u u' u2 : Value} {D D2 : List Int} (h1 : DK w T B h u D s) (k : DK w T' B h2 u2 D2 s2) (hne : T ≠ T') (hT : T ≠ 5) (hT' : T' ≠ 5) (hd : ∀ b, u.ownBlock = some b → u2.ownBlock ≠ some b) (hl : Lies w w' h u u') :
    DK w' T' B h2 u2 D2 s2 ∧ ∀ b, u'.ownBlock = some b → u2.ownBlock ≠ some b := by
  obtain ⟨a1, a2, a3, a4, a5⟩ := h1
  obtain ⟨b1, b2, b3, b4, b5⟩ := k
  have hlt2 := lt_of_some b1
  have hhh : h2 ≠ h := by
    rintro rfl
    rw [b1] at a1
    injection a1 with a1
    injection a1 with _ a1 _
    exact hne a1.symm
  have h3 := own_block_ne a2 b1 (Ne.symm hT')
  have h4 := own_block_ne b2 a1 (Ne.symm hT)
  refine ⟨⟨(hl.2.1 h2 hlt2 hhh h3).trans b1, own_keep b2 (fun b hb => hl.2.1 b (b2.lt b hb).2 (fun e => h4 (by rw [hb, e])) (fun e => hd b e hb)), b3, b4, b5⟩, fun b hb hb2 => ?_⟩
  rcases (hl.2.2 b hb).1 with h5 | h5
  · exact hd b h5 hb2
  · have := (b2.lt b hb2).2
    omega
theorem DK.below {w w' : World} {T : TypeId} {B h s : Nat} {u : Value} {D : List Int} (h1 : DK w T B h u D s) (hb : Below w.heap.size w w') : DK w' T B h u D s := by
  obtain ⟨a1, a2, a3, a4, a5⟩ := h1
  exact ⟨(hb.block h (lt_of_some a1)).trans a1, own_below a2 hb, a3, a4, a5⟩
theorem Lies.of_below {w w' : World} {h : Nat} {u : Value} (hu : ∀ b, u.ownBlock = some b → b < w.heap.size) (hb : Below w.heap.size w w') : Lies w w' h u u :=
  ⟨hb.size, fun x hx _ _ => hb.block x hx, fun b h => ⟨Or.inl h, Nat.lt_of_lt_of_le (hu b h) hb.size⟩⟩
/-- append of bytes that there are to a row of one's own: where the row lies then. -/
theorem app_lies {P : Program} {ops : Array Oper} {rest : List Oper} {o : Oper} {a : Act} {Q : Exit → Act → World → Prop} {W : World} {B : Nat} {t e : TypeId} {bytes n m : Nat} {v fv : Value} {xs news : List Value} (el : Elem P t e 1 bytes) (hgd : o.guard = none) (s x : Operand)
    (ho : o.op = .call { callee := .builtin .append, args := #[s, x], argTypes := #[t, t] }) (hown : W.ownsRow B e 1 v n xs) (hs : a.eval s = v) (hxv : a.eval x = fv) (hx : Sl W 1 fv m news) (h1 : ∀ u ∈ news, u.oneCell' = true)
    (hm : 0 < m) (h47 : (n + m) * bytes ≤ 140737488355328) (h63 : n + m ≤ 9223372036854775807) (hB : B ≤ W.heap.size)
    (h : ∀ g cap w', w'.ownsRow B e 1 (.slice (some ⟨g, 0, none⟩) (n + m) cap) (n + m) (xs ++ news) → W.grownBy w' v.ownBlock → (v.ownBlock = some g ∨ g = W.heap.size) → g < w'.heap.size → wpList P ops Q rest (a.put o.dst (.slice (some ⟨g, 0, none⟩) (n + m) cap)) w') : wpList P ops Q (o :: rest) a W := by
  obtain ⟨i, z, h2, h3, h4, h5, h6⟩ := el.info
  obtain ⟨ao, cap, rfl, g2, g3, g4, g5, g6⟩ := hx
  obtain ⟨b, off, rfl, hc⟩ := g6 hm
  exact wpList_append_lies W hgd s x t ho B e i z 1 bytes el.und h2 h3 h4 h5 h6 (by decide) v n xs hs hown _ m cap news hxv g5 (fun j u hu => by rw [addr_add]; exact hc j u hu) h1 hm (by unfold maxLen; exact h63) h47 hB _ rfl h
/-- A record is put. -/
def putS (D l : List Int) : Int × List Int := if 2000 < l.length then (2, D) else if 30000 < D.length + (frm l).length then (9, D) else (0, D ++ frm l)
theorem frm_bytes {l : List Int} (h : BytesL l) (hl : l.length ≤ 2000) : BytesL (frm l) := by
  unfold frm
  exact bytesL_append (bytesL_append (fun z hz => by have := putI_wf 9 (l.length : Int) (by omega) (lt_fuel (by omega)) z hz; simp [Lit.wf, IntKind.min, IntKind.max, IntKind.signed, IntKind.bits] at this; omega) h) (h8_bytes _)
def PutPost (w : World) (T : TypeId) (B h : Nat) (u : Value) (D l : List Int) (s : Nat) (e : Ending) (w' : World) : Prop := e = .returned (.int .i64 (putS D l).1) ∧ DKPost w T B h u (putS D l).2 s w'
theorem put_still {w w' : World} {T : TypeId} {B h s : Nat} {u : Value} {D l : List Int} {c : Int} (hp : putS D l = (c, D)) (hd : DK w T B h u D s) (hB : B ≤ w.heap.size) (hb : Below w.heap.size w w') : PutPost w T B h u D l s (.returned (.int .i64 c)) w' := by
  unfold PutPost
  rw [hp]
  exact ⟨rfl, u, hd.below hb, hb.mono hB, Lies.of_below (fun b h => (hd.2.1.lt b h).2) hb⟩
theorem put_done {w w1 w2 : World} {T : TypeId} {B h s g cap : Nat} {u : Value} {D l : List Int} (hT : T ≠ 5) (hp : putS D l = (0, D ++ frm l)) (hd : DK w T B h u D s) (hfb : BytesL (frm l)) (hb : Below w.heap.size w w1) (hB : B ≤ w.heap.size)
    (ho : w2.ownsRow B 5 1 (.slice (some ⟨g, 0, none⟩) (D.length + (frm l).length) cap) (D.length + (frm l).length) (D.map (Value.int .u8) ++ (frm l).map (Value.int .u8))) (hg : w1.grownBy w2 u.ownBlock) (hgb : u.ownBlock = some g ∨ w.heap.size ≤ g) :
    PutPost w T B h u D l s (.returned (.int .i64 0)) (w2.setCell ⟨h, 0, none⟩ (.slice (some ⟨g, 0, none⟩) (D.length + (frm l).length) cap)) := by
  obtain ⟨a1, a2, a3, a4, a5⟩ := hd
  have hlt := lt_of_some a1
  have hne := own_block_ne a2 a1 (Ne.symm hT)
  have x1 := (hb.block h hlt).trans a1
  have x2 := grown_block2 hg hne x1
  have hgne : g ≠ h := by
    rcases hgb with hg | hg
    · intro e; exact hne (by rw [hg, e])
    · omega
  have hsz : w1.heap.size ≤ w2.heap.size := hg.size
  have hsz1 := hb.size
  have hglt : g < w2.heap.size := (ho.lt g rfl).2
  unfold PutPost
  rw [hp]
  refine ⟨rfl, .slice (some ⟨g, 0, none⟩) (D.length + (frm l).length) cap, ⟨?_, ?_, a3, bytesL_append a4 hfb, by show s ≤ (D ++ frm l).length; rw [List.length_append]; omega⟩, ?_, ?_, ?_, ?_⟩
  · exact row_setCell 0 _ x2
  · rw [List.length_append, List.map_append]
    exact ownsRow_setCell_other ho (a := ⟨h, 0, none⟩) (by simp [Value.ownBlock]; exact hgne) _
  · exact (Below.grown (hb.mono hB) hg (by omega) (fun k hk => (a2.lt k hk).1)).setCell (p := ⟨h, 0, none⟩) a3 _
  · simp only [World.size_setCell]; omega
  · intro x hx hxh hxu
    rw [Below.heap_setCell w2 ⟨h, 0, none⟩ _ x (fun e => hxh e)]
    exact (hg.block x (by omega) (fun e => hxu e.symm)).trans (hb.block x hx)
  · intro b hb'
    have : g = b := by simpa [Value.ownBlock] using hb'
    subst this
    exact ⟨hgb, by simp only [World.size_setCell]; exact hglt⟩
end Go.Proofs.Ytckpabminhkndaa.Disk
