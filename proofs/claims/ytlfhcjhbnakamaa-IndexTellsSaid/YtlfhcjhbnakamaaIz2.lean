/-
  Maps of the call's own beside rows of the call's own.
-/
import Derived.Test.YtlfhcjhbnakamaaIz1
import Derived.Maps.OwnSet
import Derived.Maps.OwnOps
import Derived.Maps.OwnRows
import Derived.WideKeyEntry
import Derived.Laws.Strings2
import Derived.Lib.ConvBytes
import Derived.Shelf.Abstract
namespace Go.Gh
open Go.RowKit Go.WideShapes Go.Maps
set_option linter.unusedVariables false
section
variable {H : Type} {P : Program} {k : TypeId} {R : Value → Option (DataW H × List MemPlace)} {w w' : World} {b n : Nat} {D : DataW H}
theorem ownsMap_below (h : w.ownsMap P k R b n D) (hb : Below w.heap.size w w') : w'.ownsMap P k R b n D := by
  have hlt := h.lt
  obtain ⟨es, clock, h1, F, hs, hD⟩ := h
  exact ⟨es, clock, (hb.block b hlt).trans h1, F, hs, hD⟩
theorem ownsMap_belowB {B : Nat} (h : w.ownsMap P k R b n D) (hb : Below B w w') (hlt : b < B) : w'.ownsMap P k R b n D := by
  obtain ⟨es, clock, h1, F, hs, hD⟩ := h
  exact ⟨es, clock, (hb.block b hlt).trans h1, F, hs, hD⟩
theorem map_ne {B size m : Nat} {T : TypeId} {u : Value} {us : List Value} (h : w.ownsMap P k R b n D) (ho : w.ownsRow B T size u m us) : some b ≠ u.ownBlock := by
  intro he
  obtain ⟨es, clock, h1, F, hs, hD⟩ := h
  rcases ho.2 with ⟨rfl, _⟩ | ⟨g, cap, cur, rfl, _, hg, _⟩
  · simp [Value.ownBlock] at he
  · have : b = g := by simpa [Value.ownBlock] using he
    subst this
    rw [h1] at hg
    simp at hg
end
end Go.Gh
/-
  'm[k] = append(m[k], v)' where the entry is sought once (mapEntry, entryStore): at a map of slices of the call's own.
-/
namespace Go.Gh
open Go Go.RowKit Go.ChangeMaps Go.MapKept Go.ChangeShapes
open Go.WideElems (Fit rd rg pl rd_val elemAt findIdx_born findIdx_arr modify_last set_self)
open Go.Maps (Keyed)
set_option linter.unusedVariables false
set_option linter.unusedSimpArgs false
section
variable {H : Type} {P : Program} {t k e E : TypeId} {R : Value → Option (DataW H × List MemPlace)} {b n : Nat} {es : Array MapEntry} {clock : Nat}
/-- One entry is found, or none, in every world alike. -/
theorem find_one (K : Keyed P k) (F : Fit P k R es clock) {key : Value} {kl : Lit} (hkey : keyOf P k key = some kl) :
    ((∀ w, (Instr.findKey k key es.toList).run P w = .ok none w) ∧ ∀ x ∈ es.toList, x.key ≠ key) ∨
    ∃ j e0, (∀ w, (Instr.findKey k key es.toList).run P w = .ok (some (j, e0.val)) w) ∧ es.toList[j]? = some e0 ∧ e0.key = key := by
  by_cases hx : ∃ x ∈ es.toList, x.key = key
  · refine Or.inr ?_
    obtain ⟨x, hx, hxk⟩ := hx
    obtain ⟨j, hj⟩ := List.mem_iff_getElem?.1 hx
    refine ⟨j, x, fun w => ?_, hj, hxk⟩
    rcases K.find w hkey es.toList F.keys with ⟨h1, h2⟩ | ⟨j', e0, h1, h2, h3⟩
    · exact absurd hxk (h2 x hx)
    · have hn := ((stamped_iff es clock).1 F.stamped).2.2
      have hjj : j' = j := by
        obtain ⟨a1, b1⟩ := List.getElem?_eq_some_iff.1 h2
        obtain ⟨a2, b2⟩ := List.getElem?_eq_some_iff.1 hj
        rcases Nat.lt_trichotomy j' j with h | h | h
        · exact absurd (by rw [b1, b2, h3, hxk]) (List.pairwise_iff_getElem.1 hn j' j a1 a2 h)
        · exact h
        · exact absurd (by rw [b1, b2, h3, hxk]) (List.pairwise_iff_getElem.1 hn j j' a2 a1 h)
      subst hjj
      rw [hj] at h2
      obtain rfl := Option.some.inj h2
      exact h1
  · refine Or.inl ⟨fun w => ?_, fun x h1 h2 => hx ⟨x, h1, h2⟩⟩
    rcases K.find w hkey es.toList F.keys with ⟨h1, h2⟩ | ⟨j', e0, h1, h2, h3⟩
    · exact h1
    · exact absurd ⟨e0, List.mem_of_getElem? h2, h3⟩ hx
theorem entry_split (K : Keyed P k) (ht : P.underlying t = some (.map k e)) {z : Value} (hz : ∀ u : World, (zeroValue e).run P u = .ok z u) (F : Fit P k R es clock) {key : Value} {kl : Lit} (hkey : keyOf P k key = some kl) (b : Nat) :
    ∃ (v0 : Value) (st : Nat) (es1 : Array MapEntry) (clock1 : Nat), (∀ w : World, w.heap[b]? = some (.map es clock) → (Instr.mapEntry t (.map (some b)) key).run P w = .ok (.tuple #[v0, goInt st]) (setBlock w b (.map es1 clock1))) ∧
      ((∃ e0 ∈ es.toList, e0.key = key ∧ v0 = e0.val) ∨ ((∀ x ∈ es.toList, x.key ≠ key) ∧ v0 = z)) ∧
      ∀ val, ∃ es' clock', (∀ w2 : World, w2.heap[b]? = some (.map es1 clock1) → (Instr.entryStore t (.map (some b)) (goInt st) val).run P w2 = .ok () (setBlock w2 b (.map es' clock'))) ∧
        (∀ w : World, w.heap[b]? = some (.map es clock) → (Instr.mapUpdate t (.map (some b)) key val).run P w = .ok () (setBlock w b (.map es' clock'))) := by
  obtain ⟨s1, s2, _⟩ := F.stamped
  rcases find_one K F hkey with ⟨h1, h2⟩ | ⟨j, e0, h1, h2, h3⟩
  · refine ⟨z, clock, es.push ⟨key, z, clock⟩, clock + 1, fun w hb => ?_, Or.inr ⟨h2, rfl⟩, fun val => ⟨es.push ⟨key, val, clock⟩, clock + 1, fun w2 hw2 => ?_, fun w hb => ?_⟩⟩
    · simp [Instr.mapEntry, run_underlying ht, MapKept.run_getObj_map hb, K.check w false hkey, h1, hz, MapKept.run_setObj_map _ hb, Result.andThen, setBlock]
    · have hidx : (es.push ⟨key, z, clock⟩).findIdx? (fun e => ((e.born : Nat) : Int) == ((clock : Nat) : Int)) = some es.size := by
        rw [findIdx_arr]
        have := findIdx_born (l := (es.push ⟨key, z, clock⟩).toList) (j := es.size) (e0 := ⟨key, z, clock⟩) (by
          simp only [Array.toList_push, List.map_append, List.map_cons, List.map_nil]
          refine List.nodup_append.2 ⟨s2, by simp, fun a ha c hc e1 => ?_⟩
          simp only [List.mem_singleton] at hc
          obtain ⟨x, hx, rfl⟩ := List.mem_map.1 ha
          have := s1 x hx
          omega) (by simp)
        exact this
      have hmod : (es.push ⟨key, z, clock⟩).modify es.size (fun e => { e with val := val }) = es.push ⟨key, val, clock⟩ := by
        apply Array.ext'
        rw [Array.toList_modify, Array.toList_push, Array.toList_push, ← Array.length_toList, modify_last]
      simp [Instr.entryStore, MapKept.run_getObj_map hw2, asInt, asIntOf, goInt, hidx, hmod, MapKept.run_setObj_map _ hw2, Result.andThen, setBlock]
    · simp [Instr.mapUpdate, run_underlying ht, MapKept.run_getObj_map hb, K.check w false hkey, h1, MapKept.run_setObj_map _ hb, Result.andThen, setBlock]
  · have hj : es[j]? = some e0 := by simpa using h2
    have hsame : es.modify j (fun e => { e with key := key }) = es := by
      apply Array.ext'
      rw [Array.toList_modify, modify_eq_set _ _ _ _ h2]
      have : ({ e0 with key := key } : MapEntry) = e0 := by rw [← h3]
      rw [this]
      exact set_self _ _ _ h2
    refine ⟨e0.val, e0.born, es, clock, fun w hb => ?_, Or.inl ⟨e0, List.mem_of_getElem? h2, h3, rfl⟩, fun val => ⟨es.modify j (fun e' => { e' with key := key, val := val }), clock, fun w2 hw2 => ?_, fun w hb => ?_⟩⟩
    · simp [Instr.mapEntry, run_underlying ht, MapKept.run_getObj_map hb, K.check w false hkey, h1, hj, h3, K.stays w hkey, hsame, MapKept.run_setObj_map _ hb, Result.andThen, setBlock]
    · have hidx : es.findIdx? (fun e => ((e.born : Nat) : Int) == ((e0.born : Nat) : Int)) = some j := by
        rw [findIdx_arr]
        exact findIdx_born s2 h2
      have hmod : es.modify j (fun e => { e with val := val }) = es.modify j (fun e' => { e' with key := key, val := val }) := by
        apply Array.ext'
        rw [Array.toList_modify, Array.toList_modify, modify_eq_set _ _ _ _ h2, modify_eq_set _ _ _ _ h2, ← h3]
      simp [Instr.entryStore, MapKept.run_getObj_map hw2, asInt, asIntOf, goInt, hidx, hmod, MapKept.run_setObj_map _ hw2, Result.andThen, setBlock]
    · simp [Instr.mapUpdate, run_underlying ht, MapKept.run_getObj_map hb, K.check w false hkey, h1, hj, h3, K.stays w hkey, MapKept.run_setObj_map _ hb, Result.andThen, setBlock]
theorem setBlock_twice (w : World) (b : Nat) (o o' : Obj) : setBlock (setBlock w b o) b o' = setBlock w b o' := by
  unfold setBlock
  simp [Array.setIfInBounds_setIfInBounds]
theorem setBlock_self {w : World} {b : Nat} {o : Obj} (h : w.heap[b]? = some o) : setBlock w b o = w := by
  have hl := (Array.getElem?_eq_some_iff.1 h).1
  have : w.heap.setIfInBounds b o = w.heap := by
    apply Array.ext
    · simp
    · intro i h1 h2
      rw [Array.getElem_setIfInBounds]
      split
      · rename_i e1
        subst e1
        have := (Array.getElem?_eq_some_iff.1 h).2
        exact this.symm
      · rfl
  unfold setBlock
  rw [this]
theorem setBlock_heap {w : World} {b : Nat} {o o' : Obj} (h : w.heap[b]? = some o) : (setBlock w b o').heap[b]? = some o' := by
  have hl := (Array.getElem?_eq_some_iff.1 h).1
  unfold setBlock
  simp [hl]
theorem setBlock_else {w : World} {b i : Nat} {o' : Obj} (h : i ≠ b) : (setBlock w b o').heap[i]? = w.heap[i]? := by
  unfold setBlock
  simp [Array.getElem?_setIfInBounds, Ne.symm h]
theorem setBlock_size (w : World) (b : Nat) (o : Obj) : (setBlock w b o).heap.size = w.heap.size := by unfold setBlock; simp
/-- The entry at a key is opened: what is there, how the map's block then stands, and the way back. -/
theorem groups_open {w : World} {base : Nat} {q : IntKind} {D : DataW H} (h : w.ownsGroups P k base e q b n D) (K : Keyed P k) (ht : P.underlying t = some (.map k E)) (hz : ∀ u : World, (zeroValue E).run P u = .ok (.slice none 0 0) u) (hn : n < maxLen) {key : Value} {kl : Lit} (hkey : keyOf P k key = some kl) :
    ∃ (v : Value) (zs : List Int) (st : Nat) (o1 : Obj), (∃ es1 k1, o1 = .map es1 k1) ∧ (∃ o0, w.heap[b]? = some o0 ∧ ∀ W : World, W.heap[b]? = some o0 → (Instr.mapEntry t (.map (some b)) key).run P W = .ok (.tuple #[v, goInt st]) (setBlock W b o1)) ∧
      D.atKey kl .nil = rowDatum q v zs ∧ w.ownsInts base e q v zs ∧ zs.length ≤ n ∧ b < base ∧
      ∀ (w1 : World) (v' : Value) (zs' : List Int), (setBlock w b o1).grownBy w1 v.ownBlock → w1.ownsInts base e q v' zs' → zs'.length ≤ n + 1 → (v'.ownBlock = v.ownBlock ∨ ∃ g, v'.ownBlock = some g ∧ w.heap.size ≤ g) →
        ∃ w2, (Instr.entryStore t (.map (some b)) (goInt st) v').run P w1 = .ok () w2 ∧ w2.ownsGroups P k base e q b (n + 1) (D.put kl (rowDatum q v' zs')) ∧ w1.grownBy w2 (some b) := by
  obtain ⟨v1, zs, hrun1, hat, hoi, hzl, hback⟩ := h.at K ht (hz w) hn hkey
  obtain ⟨es, clock, hb, F, hs, hD, hbb, hlen, hap⟩ := h
  obtain ⟨v, st, es1, clock1, hent, hwho, hst⟩ := entry_split K ht hz F hkey b
  have hv : v1 = v := by
    rcases Maps.fit_look false K ht (hz w) hb F hkey with ⟨hrun, hno, _⟩ | ⟨e0, y, hm0, h3, hrun, _⟩
    · rw [hrun1] at hrun
      rcases hwho with ⟨e0, he0, hk0, -⟩ | ⟨-, hv0⟩
      · exact absurd hk0 (hno e0 he0)
      · rw [hv0]
        have := congrArg (fun r : Result Value => match r with | .ok x _ => x | _ => v1) hrun
        simpa using this
    · rw [hrun1] at hrun
      have hv1 : v1 = e0.val := by
        have := congrArg (fun r : Result Value => match r with | .ok x _ => x | _ => v1) hrun
        simpa using this
      rcases hwho with ⟨e1, he1, hk1, hv0⟩ | ⟨hno, -⟩
      · have hnn := ((stamped_iff es clock).1 F.stamped).2.2
        have : e1 = e0 := by
          obtain ⟨i1, a1, b1⟩ := List.mem_iff_getElem.1 he1
          obtain ⟨i2, a2, b2⟩ := List.mem_iff_getElem.1 hm0
          have hii : i1 = i2 := by
            rcases Nat.lt_trichotomy i1 i2 with hh | hh | hh
            · exact absurd (by rw [b1, b2, hk1, h3]) (List.pairwise_iff_getElem.1 hnn i1 i2 a1 a2 hh)
            · exact hh
            · exact absurd (by rw [b1, b2, hk1, h3]) (List.pairwise_iff_getElem.1 hnn i2 i1 a2 a1 hh)
          subst hii
          rw [← b1, ← b2]
        rw [hv1, hv0, this]
      · exact absurd h3 (hno e0 hm0)
  subst hv
  refine ⟨v1, zs, st, .map es1 clock1, ⟨es1, clock1, rfl⟩, ⟨_, hb, hent⟩, hat, hoi, hzl, hbb, fun w1 v' zs' hg hown' hl' hloc => ?_⟩
  obtain ⟨es', clock', hes, hmu⟩ := hst v'
  have hblt : b < w.heap.size := (Array.getElem?_eq_some_iff.1 hb).1
  have hvb : v1.ownBlock ≠ some b := fun e1 => by
    have := (hoi.1.lt b e1).1
    omega
  have hb1 : w1.heap[b]? = some (.map es1 clock1) := (hg.block b (by rw [setBlock_size]; exact hblt) (fun e1 => hvb e1.symm)).trans (setBlock_heap hb)
  have hv'b : v'.ownBlock = none ∨ v'.ownBlock ≠ some b := by
    cases hv' : v'.ownBlock with
    | none => exact Or.inl rfl
    | some g =>
      have := (hown'.1.lt g hv').1
      refine Or.inr (fun e1 => ?_)
      cases e1
      omega
  have hgX : w.grownBy (setBlock w1 b (.map es clock)) v1.ownBlock := by
    refine ⟨hg.os, hg.tape, hg.output, by rw [setBlock_size]; have := hg.size; rw [setBlock_size] at this; exact this, fun i hi hne => ?_⟩
    by_cases hib : i = b
    · subst hib
      rw [setBlock_heap hb1, hb]
    · rw [setBlock_else hib, hg.block i (by rw [setBlock_size]; exact hi) hne, setBlock_else hib]
  have hg2 : w1.grownBy (setBlock w1 b (.map es clock)) (some b) := ⟨rfl, rfl, rfl, by rw [setBlock_size]; exact Nat.le_refl _, fun i hi hne => setBlock_else (fun e1 => hne (by rw [e1]))⟩
  obtain ⟨w2, hr2, ho2, hgr2⟩ := hback _ v' zs' hgX (hown'.kept hg2 hv'b) hl' hloc
  rw [hmu _ (setBlock_heap hb1), setBlock_twice] at hr2
  have hw2 : setBlock w1 b (.map es' clock') = w2 := by
    have := congrArg (fun r : Result Unit => match r with | .ok _ x => x | _ => w2) hr2
    simpa using this
  subst hw2
  exact ⟨_, hes w1 hb1, ho2, ⟨rfl, rfl, rfl, by rw [setBlock_size]; exact Nat.le_refl _, fun i hi hne => setBlock_else (fun e1 => hne (by rw [e1]))⟩⟩
end
end Go.Gh
/-
  Labels and matches, their texts, and how these are read: as plain functions.
-/
namespace Go.Gh
set_option linter.unusedVariables false
set_option linter.unusedSimpArgs false
abbrev By := List UInt8
/-- A match: its kind, its name, its value. -/
structure Mt where
  kd : Int
  nm : By
  vl : By
/-- A label. -/
structure Lb where
  nm : By
  vl : By
def escB (b : UInt8) : By := if b = 92 then [92, 92] else if b = 34 then [92, 34] else if b = 10 then [92, 110] else [b]
def esc (v : By) : By := v.flatMap escB
def quo (v : By) : By := 34 :: (esc v ++ [34])
def sgn (k : Int) : By := if k = 1 then [61] else if k = 2 then [33, 61] else if k = 3 then [61, 94] else if k = 4 then [61, 126] else []
def mtx (m : Mt) : By := m.nm ++ (sgn m.kd ++ quo m.vl)
def commas : List By → By
  | [] => []
  | [x] => x
  | x :: y :: r => x ++ 44 :: commas (y :: r)
def textM (ms : List Mt) : By := 123 :: (commas (ms.map mtx) ++ [125])
def asM (l : List Lb) : List Mt := l.map fun x => ⟨1, x.nm, x.vl⟩
def asL (m : List Mt) : List Lb := m.map fun x => ⟨x.nm, x.vl⟩
theorem asL_asM (l : List Lb) : asL (asM l) = l := by
  unfold asL asM
  rw [List.map_map]
  exact List.map_id' l
/-- What a name may hold. -/
def nmB (c : UInt8) : Bool := (decide (97 ≤ c) && decide (c ≤ 122)) || (decide (48 ≤ c) && decide (c ≤ 57)) || decide (c = 95)
def digB (c : UInt8) : Bool := decide (48 ≤ c) && decide (c ≤ 57)
def nameOk (s : By) : Bool := match s with
  | [] => false
  | c :: r => decide (r.length + 1 ≤ 20) && !digB c && nmB c && r.all nmB
def goM : List Mt → Int
  | [] => 0
  | x :: r => if x.kd < 1 ∨ 4 < x.kd then 1 else if nameOk x.nm = false then 4 else if 40 < x.vl.length then 2 else goM r
def matchF (m : List Mt) : Int := if 10 < m.length then 2 else goM m
/-- Is the order wrong? -/
def badO (p : Option By) (n : By) : Bool := match p with
  | none => false
  | some q => !decide (q < n)
def goL : Option By → List Lb → Int
  | _, [] => 0
  | p, x :: r => if nameOk x.nm = false then 4 else if badO p x.nm = true then 5 else if 40 < x.vl.length then 2 else goL (some x.nm) r
def labelF (l : List Lb) : Int := if 10 < l.length then 2 else goL none l
/-- Out of quotes, behind the first. -/
def unq : By → By → Option (By × By)
  | [], _ => none
  | b :: r, acc => if b = 34 then some (acc, r) else if b = 92 then (match r with | [] => none | c :: r' => unq r' (acc ++ [if c = 110 then 10 else c])) else unq r (acc ++ [b])
theorem unq_cons (b : UInt8) (r acc : By) : unq (b :: r) acc = if b = 34 then some (acc, r) else if b = 92 then (match r with | [] => none | c :: r' => unq r' (acc ++ [if c = 110 then 10 else c])) else unq r (acc ++ [b]) := by
  rw [unq.eq_def]
  rfl
theorem unq_esc : ∀ (v r acc : By), unq (esc v ++ 34 :: r) acc = some (acc ++ v, r)
  | [], r, acc => by
    show unq (34 :: r) acc = _
    rw [unq_cons, if_pos rfl, List.append_nil]
  | b :: v, r, acc => by
    have ih := fun acc => unq_esc v r acc
    have e : esc (b :: v) = escB b ++ esc v := rfl
    rw [e, List.append_assoc]
    unfold escB
    by_cases h1 : b = 92
    · subst h1
      rw [if_pos rfl]
      show unq (92 :: 92 :: (esc v ++ 34 :: r)) acc = _
      rw [unq_cons, if_neg (by decide), if_pos rfl]
      try dsimp only
      rw [if_neg (by decide), ih, List.append_assoc]
      rfl
    · rw [if_neg h1]
      by_cases h2 : b = 34
      · subst h2
        rw [if_pos rfl]
        show unq (92 :: 34 :: (esc v ++ 34 :: r)) acc = _
        rw [unq_cons, if_neg (by decide), if_pos rfl]
        try dsimp only
        rw [if_neg (by decide), ih, List.append_assoc]
        rfl
      · rw [if_neg h2]
        by_cases h3 : b = 10
        · subst h3
          rw [if_pos rfl]
          show unq (92 :: 110 :: (esc v ++ 34 :: r)) acc = _
          rw [unq_cons, if_neg (by decide), if_pos rfl]
          try dsimp only
          rw [if_pos rfl, ih, List.append_assoc]
          rfl
        · rw [if_neg h3]
          show unq (b :: (esc v ++ 34 :: r)) acc = _
          rw [unq_cons, if_neg h2, if_neg h1, ih, List.append_assoc]
          rfl
/-- Where a name ends. -/
def opB (b : UInt8) : Bool := decide (b = 33) || decide (b = 61)
/-- The sign at the front, with the quote behind it. -/
def sgnAt (t : By) : Option (Int × By) :=
  match t with
  | 61 :: 34 :: r => some (1, r)
  | 33 :: 61 :: 34 :: r => some (2, r)
  | 61 :: 94 :: 34 :: r => some (3, r)
  | 61 :: 126 :: 34 :: r => some (4, r)
  | _ => none
/-- A match at the front. -/
def oneP (s : By) : Option (Mt × By) :=
  match sgnAt (s.dropWhile fun b => !opB b) with
  | none => none
  | some (k, r) => match unq r [] with
    | none => none
    | some (v, r') => some (⟨k, s.takeWhile fun b => !opB b, v⟩, r')
theorem nmB_op {c : UInt8} (h : nmB c = true) : opB c = false := by
  unfold nmB at h
  unfold opB
  simp only [Bool.or_eq_true, Bool.and_eq_true, decide_eq_true_eq] at h
  simp only [Bool.or_eq_false_iff, decide_eq_false_iff_not]
  constructor
  · rintro rfl
    revert h
    decide
  · rintro rfl
    revert h
    decide
theorem nameOk_all {s : By} (h : nameOk s = true) : s ≠ [] ∧ s.length ≤ 20 ∧ ∀ c ∈ s, nmB c = true := by
  match s, h with
  | c :: r, h =>
    unfold nameOk at h
    simp only [Bool.and_eq_true, decide_eq_true_eq, List.all_eq_true] at h
    refine ⟨by simp, by simpa using h.1.1.1, fun d hd => ?_⟩
    rcases List.mem_cons.1 hd with rfl | hd
    · exact h.1.2
    · exact h.2 d hd
theorem span_op : ∀ (s t : By), (∀ c ∈ s, opB c = false) → (∀ b r, t = b :: r → opB b = true) → (s ++ t).takeWhile (fun b => !opB b) = s ∧ (s ++ t).dropWhile (fun b => !opB b) = t
  | [], [], _, _ => ⟨rfl, rfl⟩
  | [], b :: r, _, h => by
    have := h b r rfl
    simp [List.takeWhile_cons, List.dropWhile_cons, this]
  | c :: s, t, h1, h2 => by
    obtain ⟨i1, i2⟩ := span_op s t (fun d hd => h1 d (by simp [hd])) h2
    have := h1 c (by simp)
    rw [List.cons_append, List.takeWhile_cons, List.dropWhile_cons, this]
    simp only [Bool.not_false, if_true]
    exact ⟨by rw [i1], i2⟩
theorem sgn_at {k : Int} (h1 : 1 ≤ k) (h2 : k ≤ 4) (r : By) : sgnAt (sgn k ++ 34 :: r) = some (k, r) ∧ ∃ b t, sgn k ++ 34 :: r = b :: t ∧ opB b = true := by
  have : k = 1 ∨ k = 2 ∨ k = 3 ∨ k = 4 := by omega
  rcases this with rfl | rfl | rfl | rfl
  · exact ⟨rfl, _, _, rfl, by decide⟩
  · exact ⟨rfl, _, _, rfl, by decide⟩
  · exact ⟨rfl, _, _, rfl, by decide⟩
  · exact ⟨rfl, _, _, rfl, by decide⟩
/-- A match that is right is read as it was written. -/
theorem one_mtx {m : Mt} (h1 : 1 ≤ m.kd) (h2 : m.kd ≤ 4) (hn : nameOk m.nm = true) (r : By) : oneP (mtx m ++ r) = some (m, r) := by
  obtain ⟨hne, -, hall⟩ := nameOk_all hn
  have e : mtx m ++ r = m.nm ++ (sgn m.kd ++ 34 :: (esc m.vl ++ 34 :: r)) := by
    unfold mtx quo
    simp [List.append_assoc]
  obtain ⟨s1, b, t, s2, s3⟩ := sgn_at h1 h2 (esc m.vl ++ 34 :: r)
  obtain ⟨p1, p2⟩ := span_op m.nm (sgn m.kd ++ 34 :: (esc m.vl ++ 34 :: r)) (fun c hc => nmB_op (hall c hc)) (fun b' r' e' => by
    rw [s2] at e'
    injection e' with e1 e2
    rw [← e1]; exact s3)
  unfold oneP
  rw [e, p1, p2, s1]
  dsimp only
  rw [unq_esc]
  rfl
def trimC (t : By) : By := match t with
  | 44 :: r => r
  | t => t
/-- The program's reading, by steps. -/
inductive RdR : By → List Mt → Option (List Mt) → Prop
  | done (t out) : (t = [] ∨ t = [125]) → RdR t out (some out)
  | bad (t out) : ¬ (t = [] ∨ t = [125]) → oneP t = none → RdR t out none
  | more (t out m b res) : ¬ (t = [] ∨ t = [125]) → oneP t = some (m, b) → RdR (trimC b) (out ++ [m]) res → RdR t out res
theorem goM_zero : ∀ {l : List Mt}, goM l = 0 → ∀ m ∈ l, 1 ≤ m.kd ∧ m.kd ≤ 4 ∧ nameOk m.nm = true ∧ m.vl.length ≤ 40
  | [], _, m, hm => by simp at hm
  | x :: r, h, m, hm => by
    rw [goM] at h
    split at h
    · exact absurd h (by decide)
    rename_i h1
    split at h
    · exact absurd h (by decide)
    rename_i h2
    split at h
    · exact absurd h (by decide)
    rename_i h3
    have h1 := not_or.1 h1
    rcases List.mem_cons.1 hm with rfl | hm
    · exact ⟨by omega, by omega, by simpa using h2, by omega⟩
    · exact goM_zero h m hm
theorem matchF_zero {l : List Mt} (h : matchF l = 0) : l.length ≤ 10 ∧ ∀ m ∈ l, 1 ≤ m.kd ∧ m.kd ≤ 4 ∧ nameOk m.nm = true ∧ m.vl.length ≤ 40 := by
  unfold matchF at h
  split at h
  · exact absurd h (by decide)
  · rename_i hl
    exact ⟨by omega, goM_zero h⟩
theorem mtx_head {m : Mt} (hn : nameOk m.nm = true) : ∃ c r, mtx m = c :: r ∧ nmB c = true := by
  obtain ⟨hne, -, hall⟩ := nameOk_all hn
  match hm : m.nm, hne with
  | c :: r, _ =>
    refine ⟨c, r ++ (sgn m.kd ++ quo m.vl), by unfold mtx; rw [hm]; rfl, hall c (by rw [hm]; simp)⟩
/-- What stands behind the first of matches. -/
def tailC : List Mt → By
  | [] => [125]
  | y :: r => 44 :: (commas ((y :: r).map mtx) ++ [125])
theorem commas_cons (m : Mt) (r : List Mt) : commas ((m :: r).map mtx) ++ [125] = mtx m ++ tailC r := by
  cases r with
  | nil => rfl
  | cons y r =>
    show (mtx m ++ 44 :: commas (mtx y :: r.map mtx)) ++ [125] = mtx m ++ 44 :: (commas (mtx y :: r.map mtx) ++ [125])
    simp [List.append_assoc]
theorem not_end {m : Mt} (hn : nameOk m.nm = true) (t : By) : ¬ (mtx m ++ t = [] ∨ mtx m ++ t = [125]) := by
  obtain ⟨c, r, e, hc⟩ := mtx_head hn
  rw [e]
  rintro (h | h)
  · simp at h
  · have : c = 125 := by simpa using congrArg List.head? h
    rw [this] at hc
    revert hc
    decide
/-- The text of right matches is read as them. -/
theorem rd_text : ∀ (l out : List Mt) (res : Option (List Mt)), (∀ m ∈ l, 1 ≤ m.kd ∧ m.kd ≤ 4 ∧ nameOk m.nm = true ∧ m.vl.length ≤ 40) → RdR (commas (l.map mtx) ++ [125]) out res → res = some (out ++ l)
  | [], out, res, _, h => by
    have h' : RdR [125] out res := h
    cases h' with
    | done t out hd => rw [List.append_nil]
    | bad t out hd h1 => exact absurd (Or.inr rfl) hd
    | more t out m b res hd h1 h2 => exact absurd (Or.inr rfl) hd
  | m :: r, out, res, hl, h => by
    obtain ⟨h1, h2, h3, -⟩ := hl m (by simp)
    rw [commas_cons] at h
    have hne := not_end h3 (tailC r)
    have ho := one_mtx h1 h2 h3 (tailC r)
    generalize hT : mtx m ++ tailC r = T at h hne ho
    cases h with
    | done t out hd => exact absurd hd hne
    | bad t out hd hb => rw [ho] at hb; simp at hb
    | more t out m' b res hd hb hr =>
      rw [ho] at hb
      injection hb with hb
      injection hb with e1 e2
      subst e1
      subst e2
      have e : trimC (tailC r) = commas (r.map mtx) ++ [125] := by cases r <;> rfl
      rw [e] at hr
      rw [rd_text r (out ++ [m]) res (fun x hx => hl x (by simp [hx])) hr, List.append_assoc]
      rfl
open Classical in
/-- The matches of a text. -/
noncomputable def rmF (s : By) : Option (List Mt) := if h : ∃ ms, matchF ms = 0 ∧ textM ms = s then some h.choose else none
def Right (l : List Mt) : Prop := ∀ m ∈ l, 1 ≤ m.kd ∧ m.kd ≤ 4 ∧ nameOk m.nm = true ∧ m.vl.length ≤ 40
/-- Two lists of right matches with one text are one. -/
theorem text_inj : ∀ (a b : List Mt), Right a → Right b → commas (a.map mtx) ++ [125] = commas (b.map mtx) ++ [125] → a = b
  | [], [], _, _, _ => rfl
  | [], m :: r, _, hb, h => by
    rw [commas_cons] at h
    exact absurd (Or.inr h.symm) (not_end (hb m (by simp)).2.2.1 (tailC r))
  | m :: r, [], ha, _, h => by
    rw [commas_cons] at h
    exact absurd (Or.inr h) (not_end (ha m (by simp)).2.2.1 (tailC r))
  | m :: r, m' :: r', ha, hb, h => by
    rw [commas_cons, commas_cons] at h
    have h1 := ha m (by simp)
    have h2 := hb m' (by simp)
    have o1 := one_mtx h1.1 h1.2.1 h1.2.2.1 (tailC r)
    have o2 := one_mtx h2.1 h2.2.1 h2.2.2.1 (tailC r')
    rw [h, o2] at o1
    injection o1 with o1
    injection o1 with e1 e2
    subst e1
    have : r = r' := by
      cases r with
      | nil => cases r' with
        | nil => rfl
        | cons y s => exact absurd (congrArg List.head? e2) (by simp [tailC])
      | cons x q => cases r' with
        | nil => exact absurd (congrArg List.head? e2) (by simp [tailC])
        | cons y s =>
          unfold tailC at e2
          injection e2 with _ e3
          exact text_inj (x :: q) (y :: s) (fun z hz => ha z (by simp [hz])) (fun z hz => hb z (by simp [hz])) e3.symm
    rw [this]
theorem rm_some {s : By} {ms : List Mt} (h1 : matchF ms = 0) (h2 : textM ms = s) : rmF s = some ms := by
  unfold rmF
  have hp : ∃ ms, matchF ms = 0 ∧ textM ms = s := ⟨ms, h1, h2⟩
  rw [dif_pos hp]
  obtain ⟨c1, c2⟩ := hp.choose_spec
  have : textM hp.choose = textM ms := c2.trans h2.symm
  unfold textM at this
  injection this with _ this
  rw [text_inj _ _ (matchF_zero c1).2 (matchF_zero h1).2 this]
/-- What the program's reading comes to. -/
theorem rm_prog {s t : By} {res : Option (List Mt)} (hs : s = 123 :: t) (hr : RdR t [] res) : (∃ ms, res = some ms ∧ matchF ms = 0 ∧ textM ms = s ∧ rmF s = some ms) ∨ ((∀ ms, res = some ms → ¬ (matchF ms = 0 ∧ textM ms = s)) ∧ rmF s = none) := by
  unfold rmF
  by_cases h : ∃ ms, matchF ms = 0 ∧ textM ms = s
  · rw [dif_pos h]
    obtain ⟨c1, c2⟩ := h.choose_spec
    generalize h.choose = ms at c1 c2
    have et : commas (ms.map mtx) ++ [125] = t := by
      unfold textM at c2
      rw [hs] at c2
      injection c2
    rw [← et] at hr
    have e1 := rd_text ms [] res (matchF_zero c1).2 hr
    rw [List.nil_append] at e1
    exact Or.inl ⟨ms, e1, c1, c2, rfl⟩
  · rw [dif_neg h]
    exact Or.inr ⟨fun ms _ hm => h ⟨ms, hm⟩, rfl⟩
theorem rm_none {s : By} (h : ∀ t, s ≠ 123 :: t) : rmF s = none := by
  unfold rmF
  rw [dif_neg]
  rintro ⟨ms, -, hm⟩
  unfold textM at hm
  exact h _ hm.symm
/-- The document's reading, by steps: the matches, and what is behind them. -/
inductive RrR : By → List Mt → Option (List Mt × By) → Prop
  | out (l) : RrR [] l none
  | close (r l) : RrR (125 :: r) l (some (l, r))
  | comma (b r l) : b ≠ 125 → l ≠ [] → b ≠ 44 → RrR (b :: r) l none
  | bad (b r t l) : b ≠ 125 → (l = [] ∧ t = b :: r ∨ l ≠ [] ∧ b = 44 ∧ t = r) → oneP t = none → RrR (b :: r) l none
  | more (b r t l m t' res) : b ≠ 125 → (l = [] ∧ t = b :: r ∨ l ≠ [] ∧ b = 44 ∧ t = r) → oneP t = some (m, t') → RrR t' (l ++ [m]) res → RrR (b :: r) l res
/-- The document reads the text of right matches as them, with whatever behind. -/
def tailR (r : List Mt) (z : By) : By := match r with
  | [] => 125 :: z
  | y :: r => 44 :: (commas ((y :: r).map mtx) ++ 125 :: z)
theorem commas_consR (m : Mt) (r : List Mt) (z : By) : commas ((m :: r).map mtx) ++ 125 :: z = mtx m ++ tailR r z := by
  cases r with
  | nil => rfl
  | cons y r =>
    show (mtx m ++ 44 :: commas (mtx y :: r.map mtx)) ++ 125 :: z = mtx m ++ 44 :: (commas (mtx y :: r.map mtx) ++ 125 :: z)
    simp [List.append_assoc]
theorem rr_tail : ∀ (r out : List Mt) (z : By) (res : Option (List Mt × By)), out ≠ [] → (∀ m ∈ r, 1 ≤ m.kd ∧ m.kd ≤ 4 ∧ nameOk m.nm = true ∧ m.vl.length ≤ 40) → RrR (tailR r z) out res → res = some (out ++ r, z)
  | [], out, z, res, ho, _, h => by
    have h' : RrR (125 :: z) out res := h
    cases h' with
    | close r l => rw [List.append_nil]
    | comma b r l hb => exact absurd rfl hb
    | bad b r t l hb => exact absurd rfl hb
    | more b r t l m t' res hb => exact absurd rfl hb
  | m :: r, out, z, res, ho, hl, h => by
    obtain ⟨h1, h2, h3, -⟩ := hl m (by simp)
    have h' : RrR (44 :: (commas ((m :: r).map mtx) ++ 125 :: z)) out res := h
    rw [commas_consR] at h'
    have hone := one_mtx h1 h2 h3 (tailR r z)
    generalize hT : mtx m ++ tailR r z = T at h' hone
    cases h' with
    | comma b r' l hb hl0 hc => exact absurd rfl hc
    | bad b r' t l hb ht hn =>
      rcases ht with ⟨h0, -⟩ | ⟨-, -, rfl⟩
      · exact absurd h0 ho
      · rw [hone] at hn; simp at hn
    | more b r' t l m' t' res hb ht hn hr =>
      rcases ht with ⟨h0, -⟩ | ⟨-, -, rfl⟩
      · exact absurd h0 ho
      · rw [hone] at hn
        injection hn with hn
        injection hn with e1 e2
        subst e1
        subst e2
        rw [rr_tail r (out ++ [m]) z res (by simp) (fun x hx => hl x (by simp [hx])) hr, List.append_assoc]
        rfl
theorem rr_text (l : List Mt) (z : By) (res : Option (List Mt × By)) (hl : ∀ m ∈ l, 1 ≤ m.kd ∧ m.kd ≤ 4 ∧ nameOk m.nm = true ∧ m.vl.length ≤ 40) (h : RrR (commas (l.map mtx) ++ 125 :: z) [] res) : res = some (l, z) := by
  cases l with
  | nil =>
    have h' : RrR (125 :: z) [] res := h
    cases h' with
    | close r l => rfl
    | comma b r l hb => exact absurd rfl hb
    | bad b r t l hb => exact absurd rfl hb
    | more b r t l m t' res hb => exact absurd rfl hb
  | cons m r =>
    obtain ⟨h1, h2, h3, -⟩ := hl m (by simp)
    rw [commas_consR] at h
    have hone := one_mtx h1 h2 h3 (tailR r z)
    obtain ⟨c, rr, e, hc⟩ := mtx_head h3
    have hT : mtx m ++ tailR r z = c :: (rr ++ tailR r z) := by rw [e]; rfl
    rw [hT] at h hone
    have hc125 : c ≠ 125 := by
      rintro rfl
      revert hc
      decide
    cases h with
    | close r l => exact absurd rfl hc125
    | comma b r' l hb hl0 => exact absurd rfl hl0
    | bad b r' t l hb ht hn =>
      rcases ht with ⟨-, rfl⟩ | ⟨h0, -⟩
      · rw [hone] at hn; simp at hn
      · exact absurd rfl h0
    | more b r' t l m' t' res hb ht hn hr =>
      rcases ht with ⟨-, rfl⟩ | ⟨h0, -⟩
      · rw [hone] at hn
        injection hn with hn
        injection hn with e1 e2
        subst e1
        subst e2
        rw [rr_tail r ([] ++ [m]) z res (by simp) (fun x hx => hl x (by simp [hx])) hr]
        rfl
      · exact absurd rfl h0
/-- What the document's reading comes to. -/
theorem rm_ref {s t : By} {res : Option (List Mt × By)} (hs : s = 123 :: t) (hr : RrR t [] res) : (∃ ms, res = some (ms, []) ∧ matchF ms = 0 ∧ textM ms = s ∧ rmF s = some ms) ∨ ((∀ ms, res = some (ms, []) → ¬ (matchF ms = 0 ∧ textM ms = s)) ∧ rmF s = none) := by
  unfold rmF
  by_cases h : ∃ ms, matchF ms = 0 ∧ textM ms = s
  · rw [dif_pos h]
    obtain ⟨c1, c2⟩ := h.choose_spec
    generalize h.choose = ms at c1 c2
    have et : commas (ms.map mtx) ++ 125 :: [] = t := by
      unfold textM at c2
      rw [hs] at c2
      injection c2
    rw [← et] at hr
    exact Or.inl ⟨ms, rr_text ms [] res (matchF_zero c1).2 hr, c1, c2, rfl⟩
  · rw [dif_neg h]
    exact Or.inr ⟨fun ms _ hm => h ⟨ms, hm⟩, rfl⟩
theorem goL_cons (p : Option By) (x : Lb) (r : List Lb) : goL p (x :: r) = if nameOk x.nm = false then 4 else if badO p x.nm = true then 5 else if 40 < x.vl.length then 2 else goL (some x.nm) r := by
  rw [goL.eq_def]
/-- The labels of a text. -/
theorem goL_match : ∀ {l : List Lb} {p : Option By}, goL p l = 0 → goM (asM l) = 0
  | [], _, _ => rfl
  | x :: r, p, h => by
    rw [goL_cons] at h
    split at h
    · exact absurd h (by decide)
    rename_i h1
    split at h
    · exact absurd h (by decide)
    split at h
    · exact absurd h (by decide)
    rename_i h3
    show goM (⟨1, x.nm, x.vl⟩ :: asM r) = 0
    rw [goM, if_neg (show ¬ ((1 : Int) < 1 ∨ (4 : Int) < 1) by decide), if_neg h1, if_neg h3]
    exact goL_match h
theorem labelF_match {l : List Lb} (h : labelF l = 0) : matchF (asM l) = 0 := by
  unfold labelF at h
  unfold matchF
  have hl : (asM l).length = l.length := by unfold asM; rw [List.length_map]
  split at h
  · exact absurd h (by decide)
  · rename_i h1
    rw [hl, if_neg h1]
    exact goL_match h
open Classical in
noncomputable def lbF (s : By) : Option (List Lb) := match rmF s with
  | none => none
  | some ms => if labelF (asL ms) = 0 ∧ textM (asM (asL ms)) = s then some (asL ms) else none
/-- All of the kind 'is'. -/
def allIs (ms : List Mt) : Prop := ∀ m ∈ ms, m.kd = 1
theorem allIs_as : ∀ {ms : List Mt}, allIs ms → asM (asL ms) = ms
  | [], _ => rfl
  | m :: ms, h => by
    have ih := allIs_as (ms := ms) (fun x hx => h x (by simp [hx]))
    have hm := h m (by simp)
    show ⟨1, m.nm, m.vl⟩ :: asM (asL ms) = m :: ms
    rw [ih]
    cases m
    simp at hm
    simp [hm]
open Classical in
/-- The document's way to the labels. -/
theorem lb_ref {s : By} {ms : List Mt} (hm : rmF s = some ms) : lbF s = if (allIs ms ∧ labelF (asL ms) = 0) then some (asL ms) else none := by
  unfold lbF
  rw [hm]
  dsimp only
  have hspec : matchF ms = 0 ∧ textM ms = s := by
    unfold rmF at hm
    split at hm
    · rename_i h
      injection hm with hm
      rw [← hm]
      exact h.choose_spec
    · simp at hm
  by_cases h : allIs ms ∧ labelF (asL ms) = 0
  · rw [if_pos h, if_pos ⟨h.2, by rw [allIs_as h.1]; exact hspec.2⟩]
  · rw [if_neg h, if_neg]
    rintro ⟨h1, h2⟩
    have e : rmF s = some (asM (asL ms)) := rm_some (labelF_match h1) h2
    rw [hm] at e
    injection e with e
    refine h ⟨fun m hm => ?_, h1⟩
    rw [e] at hm
    unfold asM at hm
    obtain ⟨x, -, rfl⟩ := List.mem_map.1 hm
    rfl
end Go.Gh
/-
  Strings as lists of bytes.
-/
namespace Go.Gh
open Go.RowKit
set_option linter.unusedVariables false
set_option linter.unusedSimpArgs false
def mkS (l : By) : ByteArray := ⟨l.toArray⟩
theorem mkS_size (l : By) : (mkS l).size = l.length := by show (mkS l).data.size = _; unfold mkS; exact List.size_toArray
theorem mkS_list (l : By) : (mkS l).toList = l := ByteArray.toList_mk l
theorem mkS_app (a b : By) : mkS a ++ mkS b = mkS (a ++ b) := by unfold mkS; rw [ByteArray.mk_append_mk]
theorem mkS_ext (l : By) (a b : Nat) : (mkS l).extract a b = mkS ((l.drop a).take (b - a)) := ByteArray.extract_mk l a b
theorem mkS_get (l : By) (k : Nat) (h : k < (mkS l).size) (h' : k < l.length) : (mkS l)[k]'h = l[k] := by
  show (mkS l).data[k]'h = _
  simp [mkS]
theorem of_mkS (s : ByteArray) : s = mkS s.data.toList := by cases s; rfl
theorem mkS_inj {a b : By} (h : mkS a = mkS b) : a = b := by
  have := congrArg ByteArray.toList h
  rwa [mkS_list, mkS_list] at this
/-- A byte against a constant. -/
theorem u8_eq (b c : UInt8) : (((b.toNat : Int) == (c.toNat : Int)) : Bool) = decide (b = c) := by
  by_cases h : b = c
  · rw [h]; simp
  · rw [decide_eq_false h, beq_eq_false_iff_ne]
    intro e
    exact h (UInt8.toNat_inj.1 (by omega))
theorem u8_le (b c : UInt8) : decide ((b.toNat : Int) ≤ (c.toNat : Int)) = decide (b ≤ c) := by
  rw [decide_eq_decide, UInt8.le_iff_toNat_le]
  omega
theorem u8_lt (b c : UInt8) : decide ((b.toNat : Int) < (c.toNat : Int)) = decide (b < c) := by
  rw [decide_eq_decide, UInt8.lt_iff_toNat_lt]
  omega
/-- A text's bytes as numbers. -/
def kbS (S : ByteArray) : List Int := S.data.toList.map fun b => (b.toNat : Int)
theorem kbS_len (S : ByteArray) : (kbS S).length = S.size := by unfold kbS; rw [List.length_map]; rfl
theorem convS_sl (w : World) (e : TypeId) (S : ByteArray) (hS : S.size ≤ 140737488355328) : Sl (Lib.bytesWorld w e S) 1 (.slice (some ⟨w.heap.size, 0, none⟩) S.size (grownCap w S.size 0 e)) S.size ((kbS S).map (Value.int .u8)) := by
  refine ⟨some ⟨w.heap.size, 0, none⟩, grownCap w S.size 0 e, rfl, grownCap_ge w S.size 0 e, ?_, fun h => by simp at h, by rw [List.length_map, kbS_len, Nat.mul_one], fun _ => ⟨w.heap.size, 0, rfl, fun j u hu => ?_⟩⟩
  · have h := grownCap_le_maxLen w S.size 0 e (by have : maxLen = 9223372036854775807 := by decide
                                                  omega)
    have : maxLen = 9223372036854775807 := by decide
    omega
  · have hj : j < S.size := by
      have := (List.getElem?_eq_some_iff.1 hu).1
      rw [List.length_map, kbS_len] at this
      exact this
    rw [Nat.zero_add, Lib.bytesWorld_cell w e S j hj]
    unfold kbS at hu
    rw [List.map_map, List.getElem?_map] at hu
    have hj2 : j < S.data.toList.length := hj
    rw [List.getElem?_eq_getElem hj2] at hu
    simp only [Option.map_some, Function.comp] at hu
    rw [List.getD_eq_getElem?_getD, List.getElem?_eq_getElem hj2]
    exact hu
theorem convS_below (w : World) (e : TypeId) (S : ByteArray) : Below w.heap.size w (Lib.bytesWorld w e S) :=
  ⟨rfl, rfl, rfl, by rw [Lib.bytesWorld_size]; omega, fun k hk => Lib.bytesWorld_at_old w e S k hk⟩
theorem convS_cell (w : World) (e : TypeId) (S : ByteArray) {B j : Nat} (hB : B < w.heap.size) : (Lib.bytesWorld w e S).cell? ⟨B, j, none⟩ = w.cell? ⟨B, j, none⟩ := by
  have := Lib.bytesWorld_at_old w e S B hB
  simp only [World.cell?, this]
theorem kbS_mk (l : By) : kbS (mkS l) = l.map fun b => (b.toNat : Int) := by unfold kbS mkS; rw [List.toList_toArray]
end Go.Gh
/-
  Slice expressions on slices that read as lists of cells.
-/
namespace Go.Gh
open Go.RowKit
set_option linter.unusedVariables false

theorem sl_sliced {w : World} {size n L H cap : Nat} {ao : Option Addr} {xs : List Value} (h : Sl w size (.slice ao n cap) n xs) (h1 : L ≤ H) (h2 : H ≤ n) : Sl w size (sliced ao L H cap size) (H - L) ((xs.drop (L * size)).take ((H - L) * size)) := by
  obtain ⟨ao', cap', e1, e2, e3, e4, e5, e6⟩ := h
  simp at e1
  obtain ⟨rfl, rfl⟩ := e1
  have hlen : ((xs.drop (L * size)).take ((H - L) * size)).length = (H - L) * size := by
    rw [List.length_take, List.length_drop, e5]
    have : (H - L) * size + L * size ≤ n * size := by rw [← Nat.add_mul]; exact Nat.mul_le_mul_right _ (by omega)
    omega
  refine ⟨_, cap - L, rfl, by omega, by omega, ?_, hlen, fun hn => ?_⟩
  · intro hnone
    split at hnone
    · omega
    · have : ao = none := by
        cases ao with
        | none => rfl
        | some a => simp at hnone
      have := e4 this
      omega
  · obtain ⟨b, off, rfl, hc⟩ := e6 (by omega)
    rw [if_neg (by omega)]
    refine ⟨b, off + L * size, by simp [addr_add], fun i u hu => ?_⟩
    have hi : i < (H - L) * size := by
      rcases Nat.lt_or_ge i ((H - L) * size) with h | h
      · exact h
      · rw [List.getElem?_eq_none (by rw [hlen]; exact h)] at hu; simp at hu
    rw [List.getElem?_take, if_pos hi, List.getElem?_drop] at hu
    rw [Nat.add_assoc]
    exact hc _ u hu
theorem wpList_run {P : Program} {ops : Array Oper} {rest : List Oper} {o : Oper} {a : Act} {Q : Exit → Act → World → Prop} {W : World} {v : Value} (hgd : o.guard = none) (h : (execOp a.eval o).run P W = .ok (.value v) W) (hk : wpList P ops Q rest (a.put o.dst v) W) : wpList P ops Q (o :: rest) a W :=
  wpList_plain hgd fun _ hK => by
    unfold Oper.wp
    rw [h]
    exact hK _ _ hk
theorem run_sizeOf_el {P : Program} {t e : TypeId} {size bytes : Nat} (el : Elem P t e size bytes) (w : World) : (sizeOf e).run P w = .ok size w := by
  obtain ⟨i, z, h2, h3, h4, _⟩ := el.info
  simp [sizeOf, typeInfo, h2, h4]
theorem elem_eq {P : Program} {t e : TypeId} {size bytes : Nat} (el : Elem P t e size bytes) : P.underlying t = some (.slice (P.elem t)) ∧ P.elem t = e := by
  have h := el.und
  have : P.elem t = e := by unfold Program.elem; rw [h]
  exact ⟨by rw [this]; exact h, this⟩
theorem exec_slice {P : Program} {ρ : Operand → Value} {o : Oper} {W : World} {t e : TypeId} {size bytes n cap L H : Nat} {ao : Option Addr} {x : Operand} {lo hi : Option Operand} (el : Elem P t e size bytes) (ho : o.op = .slice t x lo hi none) (hx : ρ x = .slice ao n cap)
    (hr : (Instr.slice t (.slice ao n cap) (lo.map ρ) (hi.map ρ) none).run P W = ((sizeOf (P.elem t)).run P W).andThen fun s w => .ok (sliced ao L H cap s) w) : (execOp ρ o).run P W = .ok (.value (sliced ao L H cap size)) W := by
  obtain ⟨e1, e2⟩ := elem_eq el
  unfold execOp
  rw [ho]
  simp only [Sem.run_bind, Option.map_none, hx, run_sliceAt_slice W t _ _ _ _ e1, hr, e2, run_sizeOf_el el, Result.andThen_ok]
  rfl
/-- x[1:] of a slice that is not empty. -/
theorem wpList_tail {P : Program} {ops : Array Oper} {rest : List Oper} {o : Oper} {a : Act} {Q : Exit → Act → World → Prop} {W W0 : World} {t e : TypeId} {size bytes n : Nat} {x : Operand} {v : Value} {xs : List Value} (el : Elem P t e size bytes) (hgd : o.guard = none)
    (ho : o.op = .slice t x (some (.const (.int .i64 1))) none none) (hx : a.eval x = v) (hS : Sl W0 size v (n + 1) xs) (h : ∀ ao c, Sl W0 size (.slice ao n c) n (xs.drop size) → wpList P ops Q rest (a.put o.dst (.slice ao n c)) W) : wpList P ops Q (o :: rest) a W := by
  obtain ⟨ao, cap, rfl, h2, h3, h4, h5, h6⟩ := hS
  have hS : Sl W0 size (.slice ao (n + 1) cap) (n + 1) xs := ⟨ao, cap, rfl, h2, h3, h4, h5, h6⟩
  obtain ⟨e1, e2⟩ := elem_eq el
  refine wpList_run hgd (exec_slice (L := 1) (H := n + 1) el ho hx ?_) ?_
  · simp only [Option.map_some, Option.map_none]
    exact run_slice_l W t ao (n + 1) cap e1 .i64 1 (by decide) (by omega)
  · have := sl_sliced hS (show 1 ≤ n + 1 by omega) (Nat.le_refl _)
    rw [Nat.one_mul, List.take_of_length_le (by rw [List.length_drop, h5, Nat.add_sub_cancel, Nat.add_mul]; omega)] at this
    exact h _ _ this
/-- x[lo:hi]. -/
theorem wpList_cut {P : Program} {ops : Array Oper} {rest : List Oper} {o : Oper} {a : Act} {Q : Exit → Act → World → Prop} {W W0 : World} {t e : TypeId} {size bytes n : Nat} {x l h : Operand} {v : Value} {xs : List Value} (L H : Nat) (el : Elem P t e size bytes) (hgd : o.guard = none)
    (ho : o.op = .slice t x (some l) (some h) none) (hx : a.eval x = v) (hl : ∃ k, a.eval l = .int k L) (hh : ∃ k, a.eval h = .int k H) (hS : Sl W0 size v n xs) (h1 : L ≤ H) (h2 : H ≤ n) (hk : ∀ ao c, Sl W0 size (.slice ao (H - L) c) (H - L) ((xs.drop (L * size)).take ((H - L) * size)) → wpList P ops Q rest (a.put o.dst (.slice ao (H - L) c)) W) : wpList P ops Q (o :: rest) a W := by
  obtain ⟨ao, cap, rfl, g2, g3, g4, g5, g6⟩ := hS
  have hS : Sl W0 size (.slice ao n cap) n xs := ⟨ao, cap, rfl, g2, g3, g4, g5, g6⟩
  obtain ⟨e1, e2⟩ := elem_eq el
  obtain ⟨kl, hl⟩ := hl
  obtain ⟨kh, hh⟩ := hh
  refine wpList_run hgd (exec_slice (L := L) (H := H) el ho hx ?_) ?_
  · simp only [Option.map_some, hl, hh]
    have := run_slice_lh W t ao n cap e1 kl kh (L : Int) (H : Int) (by omega) (by omega) (by omega)
    simpa using this
  · exact hk _ _ (sl_sliced hS h1 h2)
theorem rowCells_drop {k : Nat} {l : List (List Int)} (h : RowsK k l) (i : Nat) (hi : i ≤ l.length) : (rowCells l).drop (i * k) = rowCells (l.drop i) := by
  conv => lhs; rw [← List.take_append_drop i l]
  rw [rowCells_append]
  have hl : (rowCells (l.take i)).length = i * k := by
    rw [rowCells_len k _ (fun r hr => h r (List.mem_of_mem_take hr)), List.length_take, Nat.min_eq_left hi]
  rw [List.drop_append_of_le_length (by omega), List.drop_of_length_le (by omega), List.nil_append]
theorem rowCells_take {k : Nat} {l : List (List Int)} (h : RowsK k l) (i : Nat) : (rowCells l).take (i * k) = rowCells (l.take i) := by
  rcases Nat.lt_or_ge i l.length with hi | hi
  · conv => lhs; rw [← List.take_append_drop i l]
    rw [rowCells_append]
    have hl : (rowCells (l.take i)).length = i * k := by
      rw [rowCells_len k _ (fun r hr => h r (List.mem_of_mem_take hr)), List.length_take, Nat.min_eq_left (by omega)]
    rw [List.take_append_of_le_length (by omega), List.take_of_length_le (by omega)]
  · rw [List.take_of_length_le hi, List.take_of_length_le]
    rw [rowCells_len k _ h]
    exact Nat.mul_le_mul_right _ hi
theorem RowsK.drop {k : Nat} {l : List (List Int)} (h : RowsK k l) (i : Nat) : RowsK k (l.drop i) := fun r hr => h r (List.mem_of_mem_drop hr)
theorem RowsK.tail {k : Nat} {r : List Int} {l : List (List Int)} (h : RowsK k (r :: l)) : RowsK k l := fun x hx => h x (List.mem_cons_of_mem _ hx)
theorem rowCells_tail {k : Nat} {r : List Int} {l : List (List Int)} (h : r.length = k) : (rowCells (r :: l)).drop k = rowCells l := by
  unfold rowCells
  rw [List.flatMap_cons, List.drop_append_of_le_length (by simp; omega), List.drop_of_length_le (by simp; omega), List.nil_append]
theorem RowsK.snoc {k : Nat} {acc : List (List Int)} {r : List Int} (h : RowsK k acc) (hr : r.length = k) : RowsK k (acc ++ [r]) := by
  intro x hx
  rcases List.mem_append.1 hx with h' | h'
  · exact h x h'
  · simp at h'; subst h'; exact hr
/-- The head of a list of rows: where it lies, its cells. -/
theorem Sl.head {w : World} {ao : Option Addr} {n c k : Nat} {r : List Int} {l : List (List Int)} (h : Sl w k (.slice ao n c) n (rowCells (r :: l))) (hn : (r :: l).length = n) (hr : RowsK k (r :: l)) :
    ∃ b off, ao = some ⟨b, off, none⟩ ∧ r.length = k ∧ ∀ j, j < k → w.cell? ⟨b, off + j, none⟩ = some (.int .i64 (r.getD j 0)) := by
  obtain ⟨b, off, h1, h2, h3⟩ := h.rowk hn hr (i := 0) (by rw [← hn]; simp)
  refine ⟨b, off, h1, h2, fun j hj => ?_⟩
  have := h3 j hj
  rwa [Nat.zero_mul, Nat.add_zero] at this
end Go.Gh
