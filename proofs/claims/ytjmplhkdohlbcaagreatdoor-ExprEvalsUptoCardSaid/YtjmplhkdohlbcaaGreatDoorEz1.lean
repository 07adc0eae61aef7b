/-
  Labels and matches, their texts, and how these are read: as plain functions.
-/
import Derived.Lib.ItoaNum
import Derived.WalkKit
import Derived.ProofKit
import Derived.Below
import Derived.Lib.Hide
import Derived.Deep.Slices
import Derived.OwnWalk
import Derived.Handy
import Derived.WalkSmall
import Derived.OpenShut
import Derived.ShutString
import Derived.ChangeOld
import Derived.SizedLaws
import Derived.Laws.Strings2
import Derived.Lib.ConvBytes
import Derived.Shelf.Abstract
namespace Go.Gh
set_option linter.unusedVariables false
set_option linter.unusedSimpArgs false
abbrev By := List UInt8
/-- A match: its kind, its name, its value. -/
structure Mt where
  kd : Int
  nm : By
  vl : By
/-- A label. -/
structure Lb where
  nm : By
  vl : By
def escB (b : UInt8) : By := if b = 92 then [92, 92] else if b = 34 then [92, 34] else if b = 10 then [92, 110] else [b]
def esc (v : By) : By := v.flatMap escB
def quo (v : By) : By := 34 :: (esc v ++ [34])
def sgn (k : Int) : By := if k = 1 then [61] else if k = 2 then [33, 61] else if k = 3 then [61, 94] else if k = 4 then [61, 126] else []
def mtx (m : Mt) : By := m.nm ++ (sgn m.kd ++ quo m.vl)
def commas : List By → By
  | [] => []
  | [x] => x
  | x :: y :: r => x ++ 44 :: commas (y :: r)
def textM (ms : List Mt) : By := 123 :: (commas (ms.map mtx) ++ [125])
def asM (l : List Lb) : List Mt := l.map fun x => ⟨1, x.nm, x.vl⟩
def asL (m : List Mt) : List Lb := m.map fun x => ⟨x.nm, x.vl⟩
theorem asL_asM (l : List Lb) : asL (asM l) = l := by
  unfold asL asM
  rw [List.map_map]
  exact List.map_id' l
/-- What a name may hold. -/
def nmB (c : UInt8) : Bool := (decide (97 ≤ c) && decide (c ≤ 122)) || (decide (48 ≤ c) && decide (c ≤ 57)) || decide (c = 95)
def digB (c : UInt8) : Bool := decide (48 ≤ c) && decide (c ≤ 57)
def nameOk (s : By) : Bool := match s with
  | [] => false
  | c :: r => decide (r.length + 1 ≤ 20) && !digB c && nmB c && r.all nmB
def goM : List Mt → Int
  | [] => 0
  | x :: r => if x.kd < 1 ∨ 4 < x.kd then 1 else if nameOk x.nm = false then 4 else if 40 < x.vl.length then 2 else goM r
def matchF (m : List Mt) : Int := if 10 < m.length then 2 else goM m
/-- Is the order wrong? -/
def badO (p : Option By) (n : By) : Bool := match p with
  | none => false
  | some q => !decide (q < n)
def goL : Option By → List Lb → Int
  | _, [] => 0
  | p, x :: r => if nameOk x.nm = false then 4 else if badO p x.nm = true then 5 else if 40 < x.vl.length then 2 else goL (some x.nm) r
def labelF (l : List Lb) : Int := if 10 < l.length then 2 else goL none l
/-- Out of quotes, behind the first. -/
def unq : By → By → Option (By × By)
  | [], _ => none
  | b :: r, acc => if b = 34 then some (acc, r) else if b = 92 then (match r with | [] => none | c :: r' => unq r' (acc ++ [if c = 110 then 10 else c])) else unq r (acc ++ [b])
theorem unq_cons (b : UInt8) (r acc : By) : unq (b :: r) acc = if b = 34 then some (acc, r) else if b = 92 then (match r with | [] => none | c :: r' => unq r' (acc ++ [if c = 110 then 10 else c])) else unq r (acc ++ [b]) := by
  rw [unq.eq_def]
  rfl
theorem unq_esc : ∀ (v r acc : By), unq (esc v ++ 34 :: r) acc = some (acc ++ v, r)
  | [], r, acc => by
    show unq (34 :: r) acc = _
    rw [unq_cons, if_pos rfl, List.append_nil]
  | b :: v, r, acc => by
    have ih := fun acc => unq_esc v r acc
    have e : esc (b :: v) = escB b ++ esc v := rfl
    rw [e, List.append_assoc]
    unfold escB
    by_cases h1 : b = 92
    · subst h1
      rw [if_pos rfl]
      show unq (92 :: 92 :: (esc v ++ 34 :: r)) acc = _
      rw [unq_cons, if_neg (by decide), if_pos rfl]
      try dsimp only
      rw [if_neg (by decide), ih, List.append_assoc]
      rfl
    · rw [if_neg h1]
      by_cases h2 : b = 34
      · subst h2
        rw [if_pos rfl]
        show unq (92 :: 34 :: (esc v ++ 34 :: r)) acc = _
        rw [unq_cons, if_neg (by decide), if_pos rfl]
        try dsimp only
        rw [if_neg (by decide), ih, List.append_assoc]
        rfl
      · rw [if_neg h2]
        by_cases h3 : b = 10
        · subst h3
          rw [if_pos rfl]
          show unq (92 :: 110 :: (esc v ++ 34 :: r)) acc = _
          rw [unq_cons, if_neg (by decide), if_pos rfl]
          try dsimp only
          rw [if_pos rfl, ih, List.append_assoc]
          rfl
        · rw [if_neg h3]
          show unq (b :: (esc v ++ 34 :: r)) acc = _
          rw [unq_cons, if_neg h2, if_neg h1, ih, List.append_assoc]
          rfl
/-- Where a name ends. -/
def opB (b : UInt8) : Bool := decide (b = 33) || decide (b = 61)
/-- The sign at the front, with the quote behind it. -/
def sgnAt (t : By) : Option (Int × By) :=
  match t with
  | 61 :: 34 :: r => some (1, r)
  | 33 :: 61 :: 34 :: r => some (2, r)
  | 61 :: 94 :: 34 :: r => some (3, r)
  | 61 :: 126 :: 34 :: r => some (4, r)
  | _ => none
/-- A match at the front. -/
def oneP (s : By) : Option (Mt × By) :=
  match sgnAt (s.dropWhile fun b => !opB b) with
  | none => none
  | some (k, r) => match unq r [] with
    | none => none
    | some (v, r') => some (⟨k, s.takeWhile fun b => !opB b, v⟩, r')
theorem nmB_op {c : UInt8} (h : nmB c = true) : opB c = false := by
  unfold nmB at h
  unfold opB
  simp only [Bool.or_eq_true, Bool.and_eq_true, decide_eq_true_eq] at h
  simp only [Bool.or_eq_false_iff, decide_eq_false_iff_not]
  constructor
  · rintro rfl
    revert h
    decide
  · rintro rfl
    revert h
    decide
theorem nameOk_all {s : By} (h : nameOk s = true) : s ≠ [] ∧ s.length ≤ 20 ∧ ∀ c ∈ s, nmB c = true := by
  match s, h with
  | c :: r, h =>
    unfold nameOk at h
    simp only [Bool.and_eq_true, decide_eq_true_eq, List.all_eq_true] at h
    refine ⟨by simp, by simpa using h.1.1.1, fun d hd => ?_⟩
    rcases List.mem_cons.1 hd with rfl | hd
    · exact h.1.2
    · exact h.2 d hd
theorem span_op : ∀ (s t : By), (∀ c ∈ s, opB c = false) → (∀ b r, t = b :: r → opB b = true) → (s ++ t).takeWhile (fun b => !opB b) = s ∧ (s ++ t).dropWhile (fun b => !opB b) = t
  | [], [], _, _ => ⟨rfl, rfl⟩
  | [], b :: r, _, h => by
    have := h b r rfl
    simp [List.takeWhile_cons, List.dropWhile_cons, this]
  | c :: s, t, h1, h2 => by
    obtain ⟨i1, i2⟩ := span_op s t (fun d hd => h1 d (by simp [hd])) h2
    have := h1 c (by simp)
    rw [List.cons_append, List.takeWhile_cons, List.dropWhile_cons, this]
    simp only [Bool.not_false, if_true]
    exact ⟨by rw [i1], i2⟩
theorem sgn_at {k : Int} (h1 : 1 ≤ k) (h2 : k ≤ 4) (r : By) : sgnAt (sgn k ++ 34 :: r) = some (k, r) ∧ ∃ b t, sgn k ++ 34 :: r = b :: t ∧ opB b = true := by
  have : k = 1 ∨ k = 2 ∨ k = 3 ∨ k = 4 := by omega
  rcases this with rfl | rfl | rfl | rfl
  · exact ⟨rfl, _, _, rfl, by decide⟩
  · exact ⟨rfl, _, _, rfl, by decide⟩
  · exact ⟨rfl, _, _, rfl, by decide⟩
  · exact ⟨rfl, _, _, rfl, by decide⟩
/-- A match that is right is read as it was written. -/
theorem one_mtx {m : Mt} (h1 : 1 ≤ m.kd) (h2 : m.kd ≤ 4) (hn : nameOk m.nm = true) (r : By) : oneP (mtx m ++ r) = some (m, r) := by
  obtain ⟨hne, -, hall⟩ := nameOk_all hn
  have e : mtx m ++ r = m.nm ++ (sgn m.kd ++ 34 :: (esc m.vl ++ 34 :: r)) := by
    unfold mtx quo
    simp [List.append_assoc]
  obtain ⟨s1, b, t, s2, s3⟩ := sgn_at h1 h2 (esc m.vl ++ 34 :: r)
  obtain ⟨p1, p2⟩ := span_op m.nm (sgn m.kd ++ 34 :: (esc m.vl ++ 34 :: r)) (fun c hc => nmB_op (hall c hc)) (fun b' r' e' => by
    rw [s2] at e'
    injection e' with e1 e2
    rw [← e1]; exact s3)
  unfold oneP
  rw [e, p1, p2, s1]
  dsimp only
  rw [unq_esc]
  rfl
def trimC (t : By) : By := match t with
  | 44 :: r => r
  | t => t
/-- The program's reading, by steps. -/
inductive RdR : By → List Mt → Option (List Mt) → Prop
  | done (t out) : (t = [] ∨ t = [125]) → RdR t out (some out)
  | bad (t out) : ¬ (t = [] ∨ t = [125]) → oneP t = none → RdR t out none
  | more (t out m b res) : ¬ (t = [] ∨ t = [125]) → oneP t = some (m, b) → RdR (trimC b) (out ++ [m]) res → RdR t out res
theorem goM_zero : ∀ {l : List Mt}, goM l = 0 → ∀ m ∈ l, 1 ≤ m.kd ∧ m.kd ≤ 4 ∧ nameOk m.nm = true ∧ m.vl.length ≤ 40
  | [], _, m, hm => by simp at hm
  | x :: r, h, m, hm => by
    rw [goM] at h
    split at h
    · exact absurd h (by decide)
    rename_i h1
    split at h
    · exact absurd h (by decide)
    rename_i h2
    split at h
    · exact absurd h (by decide)
    rename_i h3
    have h1 := not_or.1 h1
    rcases List.mem_cons.1 hm with rfl | hm
    · exact ⟨by omega, by omega, by simpa using h2, by omega⟩
    · exact goM_zero h m hm
theorem matchF_zero {l : List Mt} (h : matchF l = 0) : l.length ≤ 10 ∧ ∀ m ∈ l, 1 ≤ m.kd ∧ m.kd ≤ 4 ∧ nameOk m.nm = true ∧ m.vl.length ≤ 40 := by
  unfold matchF at h
  split at h
  · exact absurd h (by decide)
  · rename_i hl
    exact ⟨by omega, goM_zero h⟩
theorem mtx_head {m : Mt} (hn : nameOk m.nm = true) : ∃ c r, mtx m = c :: r ∧ nmB c = true := by
  obtain ⟨hne, -, hall⟩ := nameOk_all hn
  match hm : m.nm, hne with
  | c :: r, _ =>
    refine ⟨c, r ++ (sgn m.kd ++ quo m.vl), by unfold mtx; rw [hm]; rfl, hall c (by rw [hm]; simp)⟩
/-- What stands behind the first of matches. -/
def tailC : List Mt → By
  | [] => [125]
  | y :: r => 44 :: (commas ((y :: r).map mtx) ++ [125])
theorem commas_cons (m : Mt) (r : List Mt) : commas ((m :: r).map mtx) ++ [125] = mtx m ++ tailC r := by
  cases r with
  | nil => rfl
  | cons y r =>
    show (mtx m ++ 44 :: commas (mtx y :: r.map mtx)) ++ [125] = mtx m ++ 44 :: (commas (mtx y :: r.map mtx) ++ [125])
    simp [List.append_assoc]
theorem not_end {m : Mt} (hn : nameOk m.nm = true) (t : By) : ¬ (mtx m ++ t = [] ∨ mtx m ++ t = [125]) := by
  obtain ⟨c, r, e, hc⟩ := mtx_head hn
  rw [e]
  rintro (h | h)
  · simp at h
  · have : c = 125 := by simpa using congrArg List.head? h
    rw [this] at hc
    revert hc
    decide
/-- The text of right matches is read as them. -/
theorem rd_text : ∀ (l out : List Mt) (res : Option (List Mt)), (∀ m ∈ l, 1 ≤ m.kd ∧ m.kd ≤ 4 ∧ nameOk m.nm = true ∧ m.vl.length ≤ 40) → RdR (commas (l.map mtx) ++ [125]) out res → res = some (out ++ l)
  | [], out, res, _, h => by
    have h' : RdR [125] out res := h
    cases h' with
    | done t out hd => rw [List.append_nil]
    | bad t out hd h1 => exact absurd (Or.inr rfl) hd
    | more t out m b res hd h1 h2 => exact absurd (Or.inr rfl) hd
  | m :: r, out, res, hl, h => by
    obtain ⟨h1, h2, h3, -⟩ := hl m (by simp)
    rw [commas_cons] at h
    have hne := not_end h3 (tailC r)
    have ho := one_mtx h1 h2 h3 (tailC r)
    generalize hT : mtx m ++ tailC r = T at h hne ho
    cases h with
    | done t out hd => exact absurd hd hne
    | bad t out hd hb => rw [ho] at hb; simp at hb
    | more t out m' b res hd hb hr =>
      rw [ho] at hb
      injection hb with hb
      injection hb with e1 e2
      subst e1
      subst e2
      have e : trimC (tailC r) = commas (r.map mtx) ++ [125] := by cases r <;> rfl
      rw [e] at hr
      rw [rd_text r (out ++ [m]) res (fun x hx => hl x (by simp [hx])) hr, List.append_assoc]
      rfl
open Classical in
/-- The matches of a text. -/
noncomputable def rmF (s : By) : Option (List Mt) := if h : ∃ ms, matchF ms = 0 ∧ textM ms = s then some h.choose else none
def Right (l : List Mt) : Prop := ∀ m ∈ l, 1 ≤ m.kd ∧ m.kd ≤ 4 ∧ nameOk m.nm = true ∧ m.vl.length ≤ 40
/-- Two lists of right matches with one text are one. -/
theorem text_inj : ∀ (a b : List Mt), Right a → Right b → commas (a.map mtx) ++ [125] = commas (b.map mtx) ++ [125] → a = b
  | [], [], _, _, _ => rfl
  | [], m :: r, _, hb, h => by
    rw [commas_cons] at h
    exact absurd (Or.inr h.symm) (not_end (hb m (by simp)).2.2.1 (tailC r))
  | m :: r, [], ha, _, h => by
    rw [commas_cons] at h
    exact absurd (Or.inr h) (not_end (ha m (by simp)).2.2.1 (tailC r))
  | m :: r, m' :: r', ha, hb, h => by
    rw [commas_cons, commas_cons] at h
    have h1 := ha m (by simp)
    have h2 := hb m' (by simp)
    have o1 := one_mtx h1.1 h1.2.1 h1.2.2.1 (tailC r)
    have o2 := one_mtx h2.1 h2.2.1 h2.2.2.1 (tailC r')
    rw [h, o2] at o1
    injection o1 with o1
    injection o1 with e1 e2
    subst e1
    have : r = r' := by
      cases r with
      | nil => cases r' with
        | nil => rfl
        | cons y s => exact absurd (congrArg List.head? e2) (by simp [tailC])
      | cons x q => cases r' with
        | nil => exact absurd (congrArg List.head? e2) (by simp [tailC])
        | cons y s =>
          unfold tailC at e2
          injection e2 with _ e3
          exact text_inj (x :: q) (y :: s) (fun z hz => ha z (by simp [hz])) (fun z hz => hb z (by simp [hz])) e3.symm
    rw [this]
theorem rm_some {s : By} {ms : List Mt} (h1 : matchF ms = 0) (h2 : textM ms = s) : rmF s = some ms := by
  unfold rmF
  have hp : ∃ ms, matchF ms = 0 ∧ textM ms = s := ⟨ms, h1, h2⟩
  rw [dif_pos hp]
  obtain ⟨c1, c2⟩ := hp.choose_spec
  have : textM hp.choose = textM ms := c2.trans h2.symm
  unfold textM at this
  injection this with _ this
  rw [text_inj _ _ (matchF_zero c1).2 (matchF_zero h1).2 this]
/-- What the program's reading comes to. -/
theorem rm_prog {s t : By} {res : Option (List Mt)} (hs : s = 123 :: t) (hr : RdR t [] res) : (∃ ms, res = some ms ∧ matchF ms = 0 ∧ textM ms = s ∧ rmF s = some ms) ∨ ((∀ ms, res = some ms → ¬ (matchF ms = 0 ∧ textM ms = s)) ∧ rmF s = none) := by
  unfold rmF
  by_cases h : ∃ ms, matchF ms = 0 ∧ textM ms = s
  · rw [dif_pos h]
    obtain ⟨c1, c2⟩ := h.choose_spec
    generalize h.choose = ms at c1 c2
    have et : commas (ms.map mtx) ++ [125] = t := by
      unfold textM at c2
      rw [hs] at c2
      injection c2
    rw [← et] at hr
    have e1 := rd_text ms [] res (matchF_zero c1).2 hr
    rw [List.nil_append] at e1
    exact Or.inl ⟨ms, e1, c1, c2, rfl⟩
  · rw [dif_neg h]
    exact Or.inr ⟨fun ms _ hm => h ⟨ms, hm⟩, rfl⟩
theorem rm_none {s : By} (h : ∀ t, s ≠ 123 :: t) : rmF s = none := by
  unfold rmF
  rw [dif_neg]
  rintro ⟨ms, -, hm⟩
  unfold textM at hm
  exact h _ hm.symm
/-- The document's reading, by steps: the matches, and what is behind them. -/
inductive RrR : By → List Mt → Option (List Mt × By) → Prop
  | out (l) : RrR [] l none
  | close (r l) : RrR (125 :: r) l (some (l, r))
  | comma (b r l) : b ≠ 125 → l ≠ [] → b ≠ 44 → RrR (b :: r) l none
  | bad (b r t l) : b ≠ 125 → (l = [] ∧ t = b :: r ∨ l ≠ [] ∧ b = 44 ∧ t = r) → oneP t = none → RrR (b :: r) l none
  | more (b r t l m t' res) : b ≠ 125 → (l = [] ∧ t = b :: r ∨ l ≠ [] ∧ b = 44 ∧ t = r) → oneP t = some (m, t') → RrR t' (l ++ [m]) res → RrR (b :: r) l res
/-- The document reads the text of right matches as them, with whatever behind. -/
def tailR (r : List Mt) (z : By) : By := match r with
  | [] => 125 :: z
  | y :: r => 44 :: (commas ((y :: r).map mtx) ++ 125 :: z)
theorem commas_consR (m : Mt) (r : List Mt) (z : By) : commas ((m :: r).map mtx) ++ 125 :: z = mtx m ++ tailR r z := by
  cases r with
  | nil => rfl
  | cons y r =>
    show (mtx m ++ 44 :: commas (mtx y :: r.map mtx)) ++ 125 :: z = mtx m ++ 44 :: (commas (mtx y :: r.map mtx) ++ 125 :: z)
    simp [List.append_assoc]
theorem rr_tail : ∀ (r out : List Mt) (z : By) (res : Option (List Mt × By)), out ≠ [] → (∀ m ∈ r, 1 ≤ m.kd ∧ m.kd ≤ 4 ∧ nameOk m.nm = true ∧ m.vl.length ≤ 40) → RrR (tailR r z) out res → res = some (out ++ r, z)
  | [], out, z, res, ho, _, h => by
    have h' : RrR (125 :: z) out res := h
    cases h' with
    | close r l => rw [List.append_nil]
    | comma b r l hb => exact absurd rfl hb
    | bad b r t l hb => exact absurd rfl hb
    | more b r t l m t' res hb => exact absurd rfl hb
  | m :: r, out, z, res, ho, hl, h => by
    obtain ⟨h1, h2, h3, -⟩ := hl m (by simp)
    have h' : RrR (44 :: (commas ((m :: r).map mtx) ++ 125 :: z)) out res := h
    rw [commas_consR] at h'
    have hone := one_mtx h1 h2 h3 (tailR r z)
    generalize hT : mtx m ++ tailR r z = T at h' hone
    cases h' with
    | comma b r' l hb hl0 hc => exact absurd rfl hc
    | bad b r' t l hb ht hn =>
      rcases ht with ⟨h0, -⟩ | ⟨-, -, rfl⟩
      · exact absurd h0 ho
      · rw [hone] at hn; simp at hn
    | more b r' t l m' t' res hb ht hn hr =>
      rcases ht with ⟨h0, -⟩ | ⟨-, -, rfl⟩
      · exact absurd h0 ho
      · rw [hone] at hn
        injection hn with hn
        injection hn with e1 e2
        subst e1
        subst e2
        rw [rr_tail r (out ++ [m]) z res (by simp) (fun x hx => hl x (by simp [hx])) hr, List.append_assoc]
        rfl
theorem rr_text (l : List Mt) (z : By) (res : Option (List Mt × By)) (hl : ∀ m ∈ l, 1 ≤ m.kd ∧ m.kd ≤ 4 ∧ nameOk m.nm = true ∧ m.vl.length ≤ 40) (h : RrR (commas (l.map mtx) ++ 125 :: z) [] res) : res = some (l, z) := by
  cases l with
  | nil =>
    have h' : RrR (125 :: z) [] res := h
    cases h' with
    | close r l => rfl
    | comma b r l hb => exact absurd rfl hb
    | bad b r t l hb => exact absurd rfl hb
    | more b r t l m t' res hb => exact absurd rfl hb
  | cons m r =>
    obtain ⟨h1, h2, h3, -⟩ := hl m (by simp)
    rw [commas_consR] at h
    have hone := one_mtx h1 h2 h3 (tailR r z)
    obtain ⟨c, rr, e, hc⟩ := mtx_head h3
    have hT : mtx m ++ tailR r z = c :: (rr ++ tailR r z) := by rw [e]; rfl
    rw [hT] at h hone
    have hc125 : c ≠ 125 := by
      rintro rfl
      revert hc
      decide
    cases h with
    | close r l => exact absurd rfl hc125
    | comma b r' l hb hl0 => exact absurd rfl hl0
    | bad b r' t l hb ht hn =>
      rcases ht with ⟨-, rfl⟩ | ⟨h0, -⟩
      · rw [hone] at hn; simp at hn
      · exact absurd rfl h0
    | more b r' t l m' t' res hb ht hn hr =>
      rcases ht with ⟨-, rfl⟩ | ⟨h0, -⟩
      · rw [hone] at hn
        injection hn with hn
        injection hn with e1 e2
        subst e1
        subst e2
        rw [rr_tail r ([] ++ [m]) z res (by simp) (fun x hx => hl x (by simp [hx])) hr]
        rfl
      · exact absurd rfl h0
/-- What the document's reading comes to. -/
theorem rm_ref {s t : By} {res : Option (List Mt × By)} (hs : s = 123 :: t) (hr : RrR t [] res) : (∃ ms, res = some (ms, []) ∧ matchF ms = 0 ∧ textM ms = s ∧ rmF s = some ms) ∨ ((∀ ms, res = some (ms, []) → ¬ (matchF ms = 0 ∧ textM ms = s)) ∧ rmF s = none) := by
  unfold rmF
  by_cases h : ∃ ms, matchF ms = 0 ∧ textM ms = s
  · rw [dif_pos h]
    obtain ⟨c1, c2⟩ := h.choose_spec
    generalize h.choose = ms at c1 c2
    have et : commas (ms.map mtx) ++ 125 :: [] = t := by
      unfold textM at c2
      rw [hs] at c2
      injection c2
    rw [← et] at hr
    exact Or.inl ⟨ms, rr_text ms [] res (matchF_zero c1).2 hr, c1, c2, rfl⟩
  · rw [dif_neg h]
    exact Or.inr ⟨fun ms _ hm => h ⟨ms, hm⟩, rfl⟩
theorem goL_cons (p : Option By) (x : Lb) (r : List Lb) : goL p (x :: r) = if nameOk x.nm = false then 4 else if badO p x.nm = true then 5 else if 40 < x.vl.length then 2 else goL (some x.nm) r := by
  rw [goL.eq_def]
/-- The labels of a text. -/
theorem goL_match : ∀ {l : List Lb} {p : Option By}, goL p l = 0 → goM (asM l) = 0
  | [], _, _ => rfl
  | x :: r, p, h => by
    rw [goL_cons] at h
    split at h
    · exact absurd h (by decide)
    rename_i h1
    split at h
    · exact absurd h (by decide)
    split at h
    · exact absurd h (by decide)
    rename_i h3
    show goM (⟨1, x.nm, x.vl⟩ :: asM r) = 0
    rw [goM, if_neg (show ¬ ((1 : Int) < 1 ∨ (4 : Int) < 1) by decide), if_neg h1, if_neg h3]
    exact goL_match h
theorem labelF_match {l : List Lb} (h : labelF l = 0) : matchF (asM l) = 0 := by
  unfold labelF at h
  unfold matchF
  have hl : (asM l).length = l.length := by unfold asM; rw [List.length_map]
  split at h
  · exact absurd h (by decide)
  · rename_i h1
    rw [hl, if_neg h1]
    exact goL_match h
open Classical in
noncomputable def lbF (s : By) : Option (List Lb) := match rmF s with
  | none => none
  | some ms => if labelF (asL ms) = 0 ∧ textM (asM (asL ms)) = s then some (asL ms) else none
/-- All of the kind 'is'. -/
def allIs (ms : List Mt) : Prop := ∀ m ∈ ms, m.kd = 1
theorem allIs_as : ∀ {ms : List Mt}, allIs ms → asM (asL ms) = ms
  | [], _ => rfl
  | m :: ms, h => by
    have ih := allIs_as (ms := ms) (fun x hx => h x (by simp [hx]))
    have hm := h m (by simp)
    show ⟨1, m.nm, m.vl⟩ :: asM (asL ms) = m :: ms
    rw [ih]
    cases m
    simp at hm
    simp [hm]
open Classical in
/-- The document's way to the labels. -/
theorem lb_ref {s : By} {ms : List Mt} (hm : rmF s = some ms) : lbF s = if (allIs ms ∧ labelF (asL ms) = 0) then some (asL ms) else none := by
  unfold lbF
  rw [hm]
  dsimp only
  have hspec : matchF ms = 0 ∧ textM ms = s := by
    unfold rmF at hm
    split at hm
    · rename_i h
      injection hm with hm
      rw [← hm]
      exact h.choose_spec
    · simp at hm
  by_cases h : allIs ms ∧ labelF (asL ms) = 0
  · rw [if_pos h, if_pos ⟨h.2, by rw [allIs_as h.1]; exact hspec.2⟩]
  · rw [if_neg h, if_neg]
    rintro ⟨h1, h2⟩
    have e : rmF s = some (asM (asL ms)) := rm_some (labelF_match h1) h2
    rw [hm] at e
    injection e with e
    refine h ⟨fun m hm => ?_, h1⟩
    rw [e] at hm
    unfold asM at hm
    obtain ⟨x, -, rfl⟩ := List.mem_map.1 hm
    rfl
end Go.Gh
/-
  Expressions: their size, their fault, their text: as plain functions.
-/
namespace Go.Gh
set_option linter.unusedVariables false
set_option linter.unusedSimpArgs false
/-- An expression: its kind, number, width, matches, names, parts. -/
inductive Ex where
  | mk (kd n wd : Int) (ms : List Mt) (bs : List By) (xs : List Ex)
namespace Ex
def kd : Ex → Int | ⟨k, _, _, _, _, _⟩ => k
def n : Ex → Int | ⟨_, n, _, _, _, _⟩ => n
def wd : Ex → Int | ⟨_, _, w, _, _, _⟩ => w
def ms : Ex → List Mt | ⟨_, _, _, m, _, _⟩ => m
def bs : Ex → List By | ⟨_, _, _, _, b, _⟩ => b
def xs : Ex → List Ex | ⟨_, _, _, _, _, x⟩ => x
end Ex
mutual
def szX : Ex → Nat
  | ⟨_, _, _, _, _, xs⟩ => 1 + szL xs
def szL : List Ex → Nat
  | [] => 0
  | y :: r => szX y + szL r
end
theorem szX_pos (x : Ex) : 0 < szX x := by
  obtain ⟨_, _, _, _, _, xs⟩ := x
  rw [szX]
  omega
theorem szX_eq (x : Ex) : szX x = 1 + szL x.xs := by
  obtain ⟨_, _, _, _, _, xs⟩ := x
  rw [szX]
  rfl
theorem szL_nil : szL [] = 0 := by rw [szL]
theorem szL_cons (y : Ex) (r : List Ex) : szL (y :: r) = szX y + szL r := by rw [szL]
theorem szL_app : ∀ (a b : List Ex), szL (a ++ b) = szL a + szL b
  | [], b => by rw [szL_nil, List.nil_append, Nat.zero_add]
  | x :: a, b => by rw [List.cons_append, szL_cons, szL_cons, szL_app a b]; omega
theorem szL_take {L : List Ex} {k : Nat} {y : Ex} (h : L[k]? = some y) : szL (L.take (k + 1)) = szL (L.take k) + szX y := by
  obtain ⟨hk, rfl⟩ := List.getElem?_eq_some_iff.1 h
  rw [List.take_succ_eq_append_getElem hk, szL_app, szL_cons, szL_nil]
  omega
theorem szL_take_le (L : List Ex) (k : Nat) : szL (L.take k) ≤ szL L := by
  have h := szL_app (L.take k) (L.drop k)
  rw [List.take_append_drop] at h
  omega
theorem szX_at {L : List Ex} {k : Nat} {y : Ex} (h : L[k]? = some y) : szX y ≤ szL L := by
  have h1 := szL_take h
  have h2 := szL_take_le L (k + 1)
  omega
/-- The parts that a kind has. -/
def prtF (k : Int) : Int := if k = 1 ∨ k = 2 then 0 else if k = 3 ∨ k = 4 ∨ k = 5 then 1 else if k = 6 ∨ k = 7 ∨ k = 8 then 2 else -1
/-- Is an argument wrong? -/
def badX (x : Ex) : Prop := prtF x.kd < 0 ∨ (x.xs.length : Int) ≠ prtF x.kd ∨ (x.kd ≠ 1 ∧ x.n ≠ 0) ∨ (x.kd ≠ 2 ∧ (x.wd ≠ 0 ∨ 0 < x.ms.length)) ∨ (prtF x.kd ≠ 1 ∧ 0 < x.bs.length) ∨ (x.kd = 2 ∧ (x.wd < 1 ∨ 1099511627776 < x.wd))
instance (x : Ex) : Decidable (badX x) := by unfold badX; exact inferInstance
def byL (bs : List By) : List Lb := bs.map fun s => ⟨s, []⟩
mutual
def chX : Ex → Int
  | ⟨k, n, w, m, b, xs⟩ => if badX ⟨k, n, w, m, b, xs⟩ then 1 else if matchF m ≠ 0 then matchF m else if labelF (byL b) ≠ 0 then labelF (byL b) else chL xs
def chL : List Ex → Int
  | [] => 0
  | y :: r => if chX y ≠ 0 then chX y else chL r
end
theorem chX_eq (x : Ex) : chX x = if badX x then 1 else if matchF x.ms ≠ 0 then matchF x.ms else if labelF (byL x.bs) ≠ 0 then labelF (byL x.bs) else chL x.xs := by
  obtain ⟨_, _, _, _, _, xs⟩ := x
  rw [chX]
  rfl
theorem chL_nil : chL [] = 0 := by rw [chL]
theorem chL_cons (y : Ex) (r : List Ex) : chL (y :: r) = if chX y ≠ 0 then chX y else chL r := by rw [chL]
theorem chX_ok {x : Ex} (h : chX x = 0) : ¬ badX x ∧ matchF x.ms = 0 ∧ labelF (byL x.bs) = 0 ∧ chL x.xs = 0 := by
  rw [chX_eq] at h
  split at h
  · exact absurd h (by decide)
  · rename_i h1
    split at h
    · rename_i h2; exact absurd h h2
    · rename_i h2
      split at h
      · rename_i h3; exact absurd h h3
      · rename_i h3
        exact ⟨h1, Classical.not_not.1 h2, Classical.not_not.1 h3, h⟩
theorem chL_at : ∀ {L : List Ex} {k : Nat} {y : Ex}, chL L = 0 → L[k]? = some y → chX y = 0
  | x :: L, 0, y, h, hy => by
    obtain rfl : x = y := by simpa using hy
    rw [chL_cons] at h
    split at h
    · rename_i h1; exact absurd h h1
    · rename_i h1; exact Classical.not_not.1 h1
  | x :: L, k + 1, y, h, hy => by
    rw [chL_cons] at h
    split at h
    · rename_i h1; exact absurd h h1
    · exact chL_at h (by simpa using hy)
/-- The whole fault. -/
def exF (x : Ex) : Int := if 100 < szX x then 2 else chX x
/-- Names with commas between. -/
def wrd (k : Int) : By := if k = 3 then [115, 117, 109] else if k = 4 then [109, 97, 120] else if k = 5 then [99, 111, 117, 110, 116] else if k = 6 then [32, 43, 32] else if k = 7 then [32, 45, 32] else if k = 8 then [32, 42, 32] else []
def byT (b : List By) : By := match b with
  | [] => []
  | x :: r => [32, 98, 121, 32] ++ commas (x :: r)
def asmX (k n w : Int) (m : List Mt) (b : List By) (ts : List By) : By :=
  if k = 1 then Lib.itoa n
  else if k = 2 then textM m ++ (91 :: (Lib.itoa w ++ [93]))
  else if k = 3 ∨ k = 4 ∨ k = 5 then wrd k ++ (byT b ++ (40 :: (ts.headD [] ++ [41])))
  else 40 :: (ts.headD [] ++ (wrd k ++ (ts.getD 1 [] ++ [41])))
mutual
def txX : Ex → By
  | ⟨k, n, w, m, b, xs⟩ => asmX k n w m b (txL xs)
def txL : List Ex → List By
  | [] => []
  | y :: r => txX y :: txL r
end
theorem txX_eq (x : Ex) : txX x = asmX x.kd x.n x.wd x.ms x.bs (txL x.xs) := by
  obtain ⟨_, _, _, _, _, xs⟩ := x
  rw [txX]
  rfl
theorem txL_nil : txL [] = [] := by rw [txL]
theorem txL_cons (y : Ex) (r : List Ex) : txL (y :: r) = txX y :: txL r := by rw [txL]
end Go.Gh
/-
  Words shared by the walks of this seat: a slice's value reads as a list of cells, and what that gives.
-/
namespace Go.Gh
open Go.RowKit Go.ChangeShapes Go.WideShapes Go.ChangeAt
set_option linter.unusedVariables false

theorem ret_int {k : IntKind} {a b : Int} (h : a = b) : Ending.returned (.int k a) = .returned (.int k b) := by rw [h]
theorem ret_str {a b : ByteArray} (h : a = b) : Ending.returned (.string a) = .returned (.string b) := by rw [h]
theorem ret_bool {a b : Bool} (h : a = b) : Ending.returned (.bool a) = .returned (.bool b) := by rw [h]

theorem wf_u8 {z : Int} (h : (Lit.int .u8 z).wf = true) : 0 ≤ z ∧ z < 256 := by
  simp [Lit.wf, IntKind.min, IntKind.max, IntKind.signed, IntKind.bits] at h
  omega
theorem wf_u64 {z : Int} (h : (Lit.int .u64 z).wf = true) : 0 ≤ z ∧ z < 18446744073709551616 := by
  simp [Lit.wf, IntKind.min, IntKind.max, IntKind.signed, IntKind.bits] at h
  omega
theorem wf_i64 {z : Int} (h : (Lit.int .i64 z).wf = true) : -9223372036854775808 ≤ z ∧ z < 9223372036854775808 := by
  simp [Lit.wf, IntKind.min, IntKind.max, IntKind.signed, IntKind.bits] at h
  omega

/-- The slice value v has n elements of 'size' cells each, and they are the cells xs. -/
def Sl (w : World) (size : Nat) (v : Value) (n : Nat) (xs : List Value) : Prop :=
  ∃ ao cap, v = .slice ao n cap ∧ n ≤ cap ∧ cap ≤ maxLen ∧ (ao = none → cap = 0) ∧ xs.length = n * size ∧
    (0 < n → ∃ b off, ao = some ⟨b, off, none⟩ ∧ ∀ i u, xs[i]? = some u → w.cell? ⟨b, off + i, none⟩ = some u)

theorem addr_add (b off i : Nat) : (⟨b, off, none⟩ : Addr).add i = ⟨b, off + i, none⟩ := by
  unfold Addr.add; split <;> simp_all

theorem cell_lt {w : World} {b o : Nat} {s : Option Nat} {u : Value} (h : w.cell? ⟨b, o, s⟩ = some u) : b < w.heap.size := by
  rcases Nat.lt_or_ge b w.heap.size with h' | h'
  · exact h'
  · simp [World.cell?, Array.getElem?_eq_none h'] at h

/-- What a reading gives stays as it is in a world that keeps what was there. -/
theorem Sl.below {w w' : World} {size n : Nat} {v : Value} {xs : List Value} (h : Sl w size v n xs) (hb : Below w.heap.size w w') : Sl w' size v n xs := by
  obtain ⟨ao, cap, h1, h2, h3, h4, h5, h6⟩ := h
  refine ⟨ao, cap, h1, h2, h3, h4, h5, fun hn => ?_⟩
  obtain ⟨b, off, ha, hc⟩ := h6 hn
  refine ⟨b, off, ha, fun i u hu => ?_⟩
  have := hc i u hu
  exact (hb.cell (p := ⟨b, off + i, none⟩) (cell_lt this)).trans this

theorem own_sl {w : World} {base : Nat} {e : TypeId} {size : Nat} {v : Value} {n : Nat} {xs : List Value} (h : w.ownsRow base e size v n xs) : Sl w size v n xs := by
  obtain ⟨hl, h | ⟨g, cap, cur, rfl, hb, hg, hn, hm, hs, ht⟩⟩ := h
  · obtain ⟨rfl, rfl⟩ := h
    exact ⟨none, 0, rfl, Nat.le_refl _, Nat.zero_le _, fun _ => rfl, hl, fun h => absurd h (Nat.lt_irrefl _)⟩
  · refine ⟨_, cap, rfl, hn, hm, fun h => by simp at h, hl, fun _ => ⟨g, 0, rfl, fun i u hu => ?_⟩⟩
    have h : w.ownsRow base e size (.slice (some ⟨g, 0, none⟩) n cap) n xs := ⟨hl, .inr ⟨g, cap, cur, rfl, hb, hg, hn, hm, hs, ht⟩⟩
    have := h.cells (g := g) rfl i u hu
    rwa [addr_add] at this

section
variable {H : Type} {enc : TypeId × Value → H} {P : Program} {W : World} {base : Nat} {spare : Nat → Bool} {held : Bool}

/-- A slice of integers that came in, as 'Sl'. -/
theorem sl_ints {t e : TypeId} {k : IntKind} {fuel : Nat} {v : Value} {x : DataW H × List MemPlace} (ht : P.underlying t = some (.slice e)) (he : P.underlying e = some (.int k)) (hc : P.cellsOf e = 1)
    (h : DataW.trod enc P W base spare held fuel t [v] = some x) (hs : ∀ n ∈ x.1.weights P t, n ≤ reachBytes) :
    ∃ (n : Nat) (zs : List Int), Sl W 1 v n (zs.map (Value.int k)) ∧ (∀ z ∈ zs, (Lit.int k z).wf = true) ∧ n * P.bytesOf e ≤ reachBytes := by
  rcases open_ints ht he hc h with ⟨hcs, _⟩ | ⟨a, len, cap, zs, hcs, _, hl, hm, hz, hx, hcell, hwz⟩
  · obtain rfl : v = .slice none 0 0 := by simpa using hcs
    exact ⟨0, [], ⟨none, 0, rfl, Nat.le_refl _, Nat.zero_le _, fun _ => rfl, by simp, fun h => absurd h (Nat.lt_irrefl _)⟩, by simp, by simp⟩
  · obtain rfl : v = .slice (some a) len cap := by simpa using hcs
    have hlz : len ≤ zs.length := by rw [hz]; split <;> omega
    refine ⟨len, zs.take len, ⟨some a, cap, rfl, hl, hm, fun h => by simp at h, by simp; omega, fun hn => ?_⟩, fun z hz' => hwz z (List.mem_of_mem_take hz'), ?_⟩
    · have h0 := hcell 0 (by omega)
      obtain ⟨b, off, spot⟩ := a
      have hs := World.cell?_spot h0
      simp [Addr.add] at hs
      subst hs
      refine ⟨b, off, rfl, fun i u hu => ?_⟩
      have hi : i < len := by
        rcases Nat.lt_or_ge i len with h' | h'
        · exact h'
        · rw [List.getElem?_eq_none (by simp; omega)] at hu; simp at hu
      have := hcell i (by omega)
      rw [addr_add] at this
      rw [this]
      have hi' : i < zs.length := by omega
      simp [List.getElem?_map, hi, List.getElem?_eq_getElem hi'] at hu
      rw [← hu, List.getD_eq_getElem?_getD, List.getElem?_eq_getElem hi']
      rfl
    · have := hs ((lits (H := H) k (zs.take len)).length + (lits (H := H) k (zs.drop len)).length |>.mul (P.bytesOf e)) (by rw [hx]; simp [DataW.weights, ht])
      refine Nat.le_trans (Nat.mul_le_mul_right _ ?_) this
      simp [lits]
      omega
end

/-- An element of a slice of integers: its cell. -/
theorem Sl.int {w : World} {ao : Option Addr} {n c : Nat} {k : IntKind} {zs : List Int} (h : Sl w 1 (.slice ao n c) n (zs.map (Value.int k))) {i : Nat} (hi : i < n) :
    ∃ b off, ao = some ⟨b, off, none⟩ ∧ w.cell? ⟨b, off + i, none⟩ = some (.int k (zs.getD i 0)) := by
  obtain ⟨ao', cap, h1, h2, h3, h4, h5, h6⟩ := h
  simp at h1 h5
  obtain ⟨rfl, rfl⟩ := h1
  obtain ⟨b, off, rfl, hc⟩ := h6 (by omega)
  refine ⟨b, off, rfl, hc i _ ?_⟩
  have : i < zs.length := by omega
  simp [this]

/-- An element of a slice of bytes: its cell, its bounds; its name is hidden. -/
theorem Sl.byte {w : World} {ao : Option Addr} {n c : Nat} {zs : List Int} (h : Sl w 1 (.slice ao n c) n (zs.map (Value.int .u8))) (hl : ∀ z ∈ zs, (Lit.int .u8 z).wf = true) {i : Nat} (hi : i < n) :
    ∃ b off z, ao = some ⟨b, off, none⟩ ∧ w.cell? ⟨b, off + i, none⟩ = some (.int .u8 z) ∧ 0 ≤ z ∧ z < 256 ∧ Hid (zs.getD i 0 = z) := by
  obtain ⟨b, off, ha, hc⟩ := h.int hi
  obtain ⟨_, _, _, _, _, _, h5, _⟩ := h
  have hi' : i < zs.length := by simp at h5; omega
  have := wf_u8 (hl (zs.getD i 0) (by rw [List.getD_eq_getElem?_getD, List.getElem?_eq_getElem hi']; exact List.getElem_mem _))
  exact ⟨b, off, _, ha, hc, this.1, this.2, Lib.hid rfl⟩

theorem Sl.shape {w : World} {v : Value} {n size : Nat} {xs : List Value} (h : Sl w size v n xs) : ∃ ao c, v = .slice ao n c ∧ n ≤ c ∧ c ≤ 9223372036854775807 ∧ xs.length = n * size := by
  obtain ⟨ao, cap, rfl, h2, h3, h4, h5, h6⟩ := h
  exact ⟨ao, cap, rfl, h2, h3, h5⟩


/-! ### What an argument that came in is known as -/
def IsInt (k : IntKind) (w : World) (v : Value) : Prop := ∃ n, v = .int k n ∧ (Lit.int k n).wf = true
def IsInts (k : IntKind) (w : World) (v : Value) : Prop := ∃ (n : Nat) (zs : List Int), Sl w 1 v n (zs.map (Value.int k)) ∧ (∀ z ∈ zs, (Lit.int k z).wf = true) ∧ n ≤ 140737488355328
def IsString (w : World) (v : Value) : Prop := ∃ s : ByteArray, v = .string s ∧ s.size ≤ 140737488355328

theorem reach_le {n b : Nat} (h : n * b ≤ reachBytes) (hb : 0 < b) : n ≤ 140737488355328 := by
  have h1 : reachBytes ≤ 140737488355328 := by decide
  have h2 : n * 1 ≤ n * b := Nat.mul_le_mul_left n hb
  omega

section
variable {H : Type} {enc : TypeId × Value → H} {P : Program} {W : World} {base b0 : Nat} {r : Reach} {spare : Nat → Bool} {held : Bool} {t e : TypeId} {k : IntKind} {v : Value} {d : DataW H} {ps : List MemPlace}
theorem rd_int {fuel : Nat} {x : DataW H × List MemPlace} (ht : P.underlying t = some (.int k)) (h : DataW.trod enc P W base spare held fuel t [v] = some x) : IsInt k W v := by
  obtain ⟨n, h1, _, hw⟩ := DataW.trod_int ht h
  exact ⟨n, by simpa using h1, hw⟩
theorem rd_ints {fuel : Nat} {x : DataW H × List MemPlace} (ht : P.underlying t = some (.slice e)) (he : P.underlying e = some (.int k)) (hc : P.cellsOf e = 1) (hb : 0 < P.bytesOf e)
    (h : DataW.trod enc P W base spare held fuel t [v] = some x) (hs : ∀ n ∈ x.1.weights P t, n ≤ reachBytes) : IsInts k W v := by
  obtain ⟨n, zs, h1, h2, h3⟩ := sl_ints ht he hc h hs
  exact ⟨n, zs, h1, h2, reach_le h3 hb⟩
theorem isInt_of (ht : P.underlying t = some (.int k)) (hv : Value.okWide P W r b0 t v) (hd : DataW.Trod enc P W base spare held t v d ps) (hs : ∀ n ∈ d.weights P t, n ≤ reachBytes) : IsInt k W v := by
  obtain ⟨n, h1, _, _, h2⟩ := open_int ht hv hd
  exact ⟨n, h1, h2⟩
theorem isInts_of (ht : P.underlying t = some (.slice e)) (he : P.underlying e = some (.int k)) (hc : P.cellsOf e = 1) (hb : 0 < P.bytesOf e) (hv : Value.okWide P W r b0 t v) (hd : DataW.Trod enc P W base spare held t v d ps) (hs : ∀ n ∈ d.weights P t, n ≤ reachBytes) : IsInts k W v := by
  obtain ⟨a, l, c, rfl⟩ := okWide_slice ht hv
  obtain ⟨fuel, hf⟩ := hd
  exact rd_ints ht he hc hb (by simpa [Value.cells] using hf) hs
theorem isString_of (ht : P.underlying t = some .string) (hv : Value.okWide P W r b0 t v) (hd : DataW.Trod enc P W base spare held t v d ps) (hs : ∀ n ∈ d.weights P t, n ≤ reachBytes) : IsString W v := by
  obtain ⟨s, rfl, rfl, _, _⟩ := Go.ChangeMaps.open_string ht hv hd
  have := hs s.data.toList.length (by simp [DataW.weights])
  have h1 : reachBytes ≤ 140737488355328 := by decide
  exact ⟨s, rfl, by simp at this; have e : s.size = s.data.size := rfl; omega⟩
theorem trod_lt' (hd : DataW.Trod enc P W base spare held t v d ps) : ∀ x ∈ ps, x.block < W.heap.size := by
  obtain ⟨m, hm⟩ := hd
  exact DataW.trod_lt m _ _ _ hm
theorem sized_at {ts : List TypeId} {ds : List (DataW H)} (h : (DataW.weightsEach P ts ds).all (fun n => decide (n ≤ reachBytes)) = true) (j : Nat) {t : TypeId} {d : DataW H} (ht : ts[j]? = some t) (hd : ds[j]? = some d) : ∀ n ∈ d.weights P t, n ≤ reachBytes := by
  intro n hn
  have := List.all_eq_true.1 h _ (DataW.weights_mem_each ht hd n hn)
  simpa using this
end

/-! ### append of one element to a row of the call's own -/
structure Elem (P : Program) (t e : TypeId) (size bytes : Nat) : Prop where
  und : P.underlying t = some (.slice e)
  info : ∃ i z, P.info? e = some i ∧ i.zero = some z ∧ i.size = size ∧ i.bytes = bytes ∧ z.cells.size = size
  pos : 0 < size

theorem elem_of {P : Program} {t e : TypeId} {z : Value} {size bytes : Nat} (hu : P.underlying t = some (.slice e)) (h : (P.info? e).map (fun i => (i.zero, i.size, i.bytes)) = some (some z, size, bytes)) (hz : z.cells.size = size) (hp : 0 < size) : Elem P t e size bytes := by
  obtain ⟨i, h1, h2, h3, h4⟩ := info_parts h
  exact ⟨hu, ⟨i, z, h1, h2, h3, h4, hz⟩, hp⟩

theorem fresh_cells (W : World) (cells : List Value) (e : TypeId) (j : Nat) (u : Value) (h : cells[j]? = some u) : (W.alloc (.cells cells.toArray e)).cell? ((⟨W.heap.size, 0, none⟩ : Addr).add j) = some u := by
  rw [addr_add, cell_of_row _ _ _ _ e (0, 0) (heap_alloc_new W _)]
  simpa using h

theorem grown_trans {a b c : World} {row : Option Nat} (h : a.grownBy b row) (k : b.grownBy c row) : a.grownBy c row :=
  ⟨k.os.trans h.os, k.tape.trans h.tape, k.output.trans h.output, Nat.le_trans h.size k.size, fun j hj hne => (k.block j (Nat.lt_of_lt_of_le hj h.size) hne).trans (h.block j hj hne)⟩

theorem append1 {P : Program} {ops : Array Oper} {rest : List Oper} {o : Oper} {a : Act} {Q : Exit → Act → World → Prop} {w0 W : World} {B : Nat} {t e : TypeId} {size bytes n : Nat} {xs : List Value} {v : Value} (cells : List Value)
    (el : Elem P t e size bytes) (hgd : o.guard = none) (s x : Operand) (ho : o.op = .call { callee := .builtin .append, args := #[s, x], argTypes := #[t, t] })
    (hown : W.ownsRow B e size v n xs) (hbel : Below B w0 W) (hB : B ≤ W.heap.size) (hs : a.eval s = v) (hx : a.eval x = .slice (some ⟨W.heap.size, 0, none⟩) 1 1)
    (hl : cells.length = size) (h1 : ∀ u ∈ cells, u.oneCell' = true) (h47 : (n + 1) * bytes ≤ 140737488355328) (h63 : n + 1 ≤ 9223372036854775807)
    (h : ∀ v' w', w'.ownsRow B e size v' (n + 1) (xs ++ cells) → Below B w0 w' → W.grownBy w' v.ownBlock → wpList P ops Q rest (a.put o.dst v') w') :
    wpList P ops Q (o :: rest) a (W.alloc (.cells cells.toArray e)) := by
  obtain ⟨i, z, h2, h3, h4, h5, h6⟩ := el.info
  refine wpList_append_own _ hgd s x t ho B e i z size bytes el.und h2 h3 h4 h5 h6 el.pos v n xs hs (hown.alloc _) ⟨W.heap.size, 0, none⟩ 1 1 cells hx (by rw [Nat.one_mul]; exact hl) (fresh_cells W cells e) h1 (by unfold maxLen; exact h63) h47 (by simp; omega) ?_
  intro v' w' hown' hg _
  refine h v' w' hown' ?_ ?_
  · refine Below.grown (hbel.alloc hB _) hg (by simp; omega) ?_
    intro k hk
    exact (hown.lt k hk).1
  · exact grown_trans (World.grownBy_alloc W _ _) hg

theorem one_all (u : Value) (h : u.oneCell' = true) : ∀ x ∈ [u], x.oneCell' = true := by
  intro x hx; simp at hx; subst hx; exact h
theorem ret_eq {a b : Value} (h : a = b) : Ending.returned a = .returned b := by rw [h]

theorem own_build (W : World) {B : Nat} {e : TypeId} {size n : Nat} (cells : List Value) (hB : B ≤ W.heap.size) (hl : cells.length = n * size) (hn : n ≤ 9223372036854775807) :
    (W.alloc (.cells cells.toArray e)).ownsRow B e size (.slice (some ⟨W.heap.size, 0, none⟩) n n) n cells :=
  ⟨hl, .inr ⟨W.heap.size, n, cells.toArray, rfl, hB, heap_alloc_new W _, Nat.le_refl _, hn, by simpa using hl, by rw [List.take_of_length_le (by simp; omega)]⟩⟩

theorem own_below {w w' : World} {B : Nat} {e : TypeId} {size : Nat} {v : Value} {n : Nat} {xs : List Value} (h : w.ownsRow B e size v n xs) (hb : Below w.heap.size w w') : w'.ownsRow B e size v n xs := by
  refine ⟨h.1, ?_⟩
  rcases h.2 with hn | ⟨g, cap, cur, rfl, hb', hgg, rest⟩
  · exact .inl hn
  · refine .inr ⟨g, cap, cur, rfl, hb', ?_, rest⟩
    rw [hb.block g (Array.getElem?_eq_some_iff.1 hgg).1]
    exact hgg
theorem own_mono {w : World} {B B' : Nat} {e : TypeId} {size : Nat} {v : Value} {n : Nat} {xs : List Value} (h : w.ownsRow B e size v n xs) (hb : B' ≤ B) : w.ownsRow B' e size v n xs := by
  refine ⟨h.1, ?_⟩
  rcases h.2 with hn | ⟨g, cap, cur, rfl, hb', rest⟩
  · exact .inl hn
  · exact .inr ⟨g, cap, cur, rfl, Nat.le_trans hb hb', rest⟩
theorem own_some {w : World} {B : Nat} {e : TypeId} {size : Nat} {v : Value} {n : Nat} {xs : List Value} (h : w.ownsRow B e size v n xs) (hn : 0 < n) : ∃ g cap, v = .slice (some ⟨g, 0, none⟩) n cap ∧ B ≤ g ∧ g < w.heap.size ∧ n ≤ cap ∧ cap ≤ 9223372036854775807 ∧ ∀ j u, xs[j]? = some u → w.cell? ⟨g, j, none⟩ = some u := by
  have h0 := h
  rcases h.2 with ⟨rfl, hz⟩ | ⟨g, cap, cur, rfl, hb', hgg, h1, h2, h3, h4⟩
  · omega
  · refine ⟨g, cap, rfl, hb', (Array.getElem?_eq_some_iff.1 hgg).1, h1, h2, fun j u hu => ?_⟩
    have := h0.cells (g := g) rfl j u hu
    rw [addr_add] at this
    simpa using this

/-- append of a slice that is not empty to a row of the call's own. -/
theorem appendN {P : Program} {ops : Array Oper} {rest : List Oper} {o : Oper} {a : Act} {Q : Exit → Act → World → Prop} {w0 W : World} {B : Nat} {t e : TypeId} {size bytes n m c b off : Nat} {xs news : List Value} {v : Value}
    (el : Elem P t e size bytes) (hgd : o.guard = none) (s x : Operand) (ho : o.op = .call { callee := .builtin .append, args := #[s, x], argTypes := #[t, t] })
    (hown : W.ownsRow B e size v n xs) (hbel : Below B w0 W) (hB : B ≤ W.heap.size) (hs : a.eval s = v) (hx : a.eval x = .slice (some ⟨b, off, none⟩) m c)
    (hl : news.length = m * size) (hnews : ∀ j u, news[j]? = some u → W.cell? ⟨b, off + j, none⟩ = some u) (h1 : ∀ u ∈ news, u.oneCell' = true) (h47 : (n + m) * bytes ≤ 140737488355328) (h63 : n + m ≤ 9223372036854775807)
    (h : ∀ v' w', w'.ownsRow B e size v' (n + m) (xs ++ news) → Below B w0 w' → W.grownBy w' v.ownBlock → wpList P ops Q rest (a.put o.dst v') w') :
    wpList P ops Q (o :: rest) a W := by
  obtain ⟨i, z, h2, h3, h4, h5, h6⟩ := el.info
  refine wpList_append_own _ hgd s x t ho B e i z size bytes el.und h2 h3 h4 h5 h6 el.pos v n xs hs hown ⟨b, off, none⟩ m c news hx hl (fun j u hu => by rw [addr_add]; exact hnews j u hu) h1 (by unfold maxLen; exact h63) h47 hB ?_
  intro v' w' hown' hg _
  refine h v' w' hown' ?_ hg
  refine Below.grown hbel hg hB ?_
  intro k hk
  exact (hown.lt k hk).1

/-! ### bytes as a string -/
def bstr (l : List Int) : ByteArray := ⟨(l.map fun z => UInt8.ofNat z.toNat).toArray⟩
theorem foldl_push (l : List Int) : ∀ (s : ByteArray), l.foldl (fun r n => r.push (UInt8.ofNat n.toNat)) s = ⟨s.data ++ (l.map fun z => UInt8.ofNat z.toNat).toArray⟩ := by
  induction l with
  | nil => intro s; simp
  | cons z l ih =>
    intro s
    rw [List.foldl_cons, ih]
    simp [ByteArray.push]
theorem bstr_inj {l l' : List Int} (h1 : ∀ z ∈ l, (Lit.int .u8 z).wf = true) (h2 : ∀ z ∈ l', (Lit.int .u8 z).wf = true) (h : bstr l = bstr l') : l = l' := by
  have h : l.map (fun z => UInt8.ofNat z.toNat) = l'.map (fun z => UInt8.ofNat z.toNat) := by
    have := congrArg (fun b : ByteArray => b.data.toList) h
    simpa [bstr] using this
  induction l generalizing l' with
  | nil => cases l' with
    | nil => rfl
    | cons b l' => simp at h
  | cons a l ih => cases l' with
    | nil => simp at h
    | cons b l' =>
      simp only [List.map_cons, List.cons.injEq] at h
      have ha := wf_u8 (h1 a (by simp))
      have hb := wf_u8 (h2 b (by simp))
      have e := congrArg UInt8.toNat h.1
      rw [UInt8.toNat_ofNat', UInt8.toNat_ofNat'] at e
      have : a = b := by omega
      subst this
      rw [ih (fun z hz => h1 z (by simp [hz])) (fun z hz => h2 z (by simp [hz])) (by rename_i h0; exact congrArg (fun l : List UInt8 => ByteArray.mk l.toArray) h.2) h.2]

theorem run_bytes {P : Program} {w : World} {v : Value} {n : Nat} {l : List Int} {src dst e : TypeId} (hs : P.underlying src = some (.slice e)) (he : P.underlying e = some (.int .u8)) (hd : P.underlying dst = some .string)
    (hv : Sl w 1 v n (l.map (Value.int .u8))) : (convert src dst v).run P w = .ok (.string (bstr l)) w := by
  obtain ⟨ao, c, rfl, h1, h2, h3⟩ := hv.shape
  rw [run_convert_bytes_string w src dst e ao n c hs he hd]
  have hln : l.length = n := by simpa using h3
  cases ao with
  | none =>
    have : n = 0 := by
      rcases Nat.eq_zero_or_pos n with h | h
      · exact h
      · obtain ⟨ao', cap, h1, _, _, _, _, h6⟩ := hv
        obtain ⟨b, off, h, _⟩ := h6 h
        simp at h1
        rw [h] at h1; simp at h1
    have : l = [] := List.length_eq_zero_iff.1 (by omega)
    subst this
    simp [Conv.bytesToString, bstr, Sem.run_pure]
    rfl
  | some a =>
    have hload : (loadCells a n).run P w = .ok (l.map (Value.int .u8)).toArray w := by
      have := run_loadCells_list (P := P) w a (l.map (Value.int .u8)) (fun j u hu => by
        have hpos : 0 < n := by
          rcases Nat.lt_or_ge j (l.map (Value.int .u8)).length with h | h
          · simp at h; omega
          · rw [List.getElem?_eq_none h] at hu; simp at hu
        obtain ⟨ao', cap, h1, _, _, _, _, h6⟩ := hv
        obtain ⟨b, off, h, hc⟩ := h6 hpos
        simp at h1
        rw [h] at h1
        have ha : a = ⟨b, off, none⟩ := by simpa using h1.1
        subst ha
        rw [addr_add]
        exact hc j u hu)
      rwa [List.length_map, hln] at this
    rw [run_bytesToString w a n c l hload, foldl_push]
    simp [bstr]

/-- From here on only R is known of the world. -/
theorem wp_abs {P : Program} {c : Code} {Q : Exit → Act → World → Prop} {a : Act} {w0 : World} (R : World → Prop) (hR : R w0) (h : ∀ w1, R w1 → c.wp P Q a w1) : c.wp P Q a w0 := h _ hR

theorem Sl.alloc {w : World} {size n : Nat} {v : Value} {xs : List Value} (h : Sl w size v n xs) (o : Obj) : Sl (w.alloc o) size v n xs := h.below ((Below.refl _ _).alloc (Nat.le_refl _) o)
theorem sl_new (W : World) {e : TypeId} {size n : Nat} (cells : List Value) (hl : cells.length = n * size) (hn : n ≤ 9223372036854775807) : Sl (W.alloc (.cells cells.toArray e)) size (.slice (some ⟨W.heap.size, 0, none⟩) n n) n cells :=
  own_sl (own_build (B := 0) W cells (Nat.zero_le _) hl hn)
theorem cell_new (W : World) (e : TypeId) (cells : List Value) (j : Nat) (u : Value) (h : cells[j]? = some u) : (W.alloc (.cells cells.toArray e)).cell? ⟨W.heap.size, j, none⟩ = some u := by
  have := fresh_cells W cells e j u h
  rw [addr_add] at this
  simpa using this

/-- make([]T, 0, n). -/
theorem make0 {P : Program} {ops : Array Oper} {rest : List Oper} {o : Oper} {a : Act} {Q : Exit → Act → World → Prop} {w0 W : World} {B : Nat} {t e : TypeId} {size bytes : Nat}
    (el : Elem P t e size bytes) (hgd : o.guard = none) (l c : Operand) (ho : o.op = Op.makeSlice t l c) (kl kc : IntKind) (C : Int) (n : Nat) (hl : a.eval l = .int kl 0) (hc : a.eval c = .int kc C) (hC : C = (n : Int))
    (hb : bytes * n ≤ 281474976710656) (h63 : n ≤ 9223372036854775807) (hbel : Below B w0 W) (hB : B ≤ W.heap.size)
    (h : ∀ w', w'.ownsRow B e size (.slice (some ⟨W.heap.size, 0, none⟩) 0 n) 0 [] → Below B w0 w' → W.grownBy w' none → wpList P ops Q rest (a.put o.dst (.slice (some ⟨W.heap.size, 0, none⟩) 0 n)) w') :
    wpList P ops Q (o :: rest) a W := by
  obtain ⟨i, z, h2, h3, h4, h5, h6⟩ := el.info
  refine wpList_make_own W hgd l c t ho B e i z size el.und h2 h3 h4 kl kc C n hl hc hC (by rw [h5]; exact hb) (by unfold maxLen; exact h63) hB ?_
  intro w' h7 h8
  exact h w' h7 (Below.grown hbel h8 hB (fun k hk => by simp at hk)) h8

/-- append of whatever slice that has an address to a row of the call's own. -/
theorem appendS {P : Program} {ops : Array Oper} {rest : List Oper} {o : Oper} {a : Act} {Q : Exit → Act → World → Prop} {w0 W : World} {B : Nat} {t e : TypeId} {size bytes n m c : Nat} {ad : Addr} {xs news : List Value} {v : Value}
    (el : Elem P t e size bytes) (hgd : o.guard = none) (s x : Operand) (ho : o.op = .call { callee := .builtin .append, args := #[s, x], argTypes := #[t, t] })
    (hown : W.ownsRow B e size v n xs) (hbel : Below B w0 W) (hB : B ≤ W.heap.size) (hs : a.eval s = v) (hx : a.eval x = .slice (some ad) m c)
    (hsl : Sl W size (.slice (some ad) m c) m news) (h1 : ∀ u ∈ news, u.oneCell' = true) (h47 : (n + m) * bytes ≤ 140737488355328) (h63 : n + m ≤ 9223372036854775807)
    (h : ∀ v' w', w'.ownsRow B e size v' (n + m) (xs ++ news) → Below B w0 w' → W.grownBy w' v.ownBlock → wpList P ops Q rest (a.put o.dst v') w') :
    wpList P ops Q (o :: rest) a W := by
  obtain ⟨i, z, h2, h3, h4, h5, h6⟩ := el.info
  obtain ⟨ao', cap, e1, _, _, _, hl, hc⟩ := hsl
  simp at e1
  obtain ⟨rfl, rfl⟩ := e1
  refine wpList_append_own _ hgd s x t ho B e i z size bytes el.und h2 h3 h4 h5 h6 el.pos v n xs hs hown ad m c news hx hl ?_ h1 (by unfold maxLen; exact h63) h47 hB ?_
  · intro j u hu
    have hm : 0 < m := by
      rcases Nat.eq_zero_or_pos m with h | h
      · subst h
        have : news = [] := List.length_eq_zero_iff.1 (by simpa using hl)
        subst this; simp at hu
      · exact h
    obtain ⟨b, off, e2, hc'⟩ := hc hm
    have : ad = ⟨b, off, none⟩ := by simpa using e2
    subst this
    rw [addr_add]
    exact hc' j u hu
  · intro v' w' hown' hg _
    refine h v' w' hown' ?_ hg
    refine Below.grown hbel hg hB ?_
    intro k hk
    exact (hown.lt k hk).1
end Go.Gh
/-
  Strings as lists of bytes.
-/
namespace Go.Gh
open Go.RowKit
set_option linter.unusedVariables false
set_option linter.unusedSimpArgs false
def mkS (l : By) : ByteArray := ⟨l.toArray⟩
theorem mkS_size (l : By) : (mkS l).size = l.length := by show (mkS l).data.size = _; unfold mkS; exact List.size_toArray
theorem mkS_list (l : By) : (mkS l).toList = l := ByteArray.toList_mk l
theorem mkS_app (a b : By) : mkS a ++ mkS b = mkS (a ++ b) := by unfold mkS; rw [ByteArray.mk_append_mk]
theorem mkS_ext (l : By) (a b : Nat) : (mkS l).extract a b = mkS ((l.drop a).take (b - a)) := ByteArray.extract_mk l a b
theorem mkS_get (l : By) (k : Nat) (h : k < (mkS l).size) (h' : k < l.length) : (mkS l)[k]'h = l[k] := by
  show (mkS l).data[k]'h = _
  simp [mkS]
theorem of_mkS (s : ByteArray) : s = mkS s.data.toList := by cases s; rfl
theorem mkS_inj {a b : By} (h : mkS a = mkS b) : a = b := by
  have := congrArg ByteArray.toList h
  rwa [mkS_list, mkS_list] at this
/-- A byte against a constant. -/
theorem u8_eq (b c : UInt8) : (((b.toNat : Int) == (c.toNat : Int)) : Bool) = decide (b = c) := by
  by_cases h : b = c
  · rw [h]; simp
  · rw [decide_eq_false h, beq_eq_false_iff_ne]
    intro e
    exact h (UInt8.toNat_inj.1 (by omega))
theorem u8_le (b c : UInt8) : decide ((b.toNat : Int) ≤ (c.toNat : Int)) = decide (b ≤ c) := by
  rw [decide_eq_decide, UInt8.le_iff_toNat_le]
  omega
theorem u8_lt (b c : UInt8) : decide ((b.toNat : Int) < (c.toNat : Int)) = decide (b < c) := by
  rw [decide_eq_decide, UInt8.lt_iff_toNat_lt]
  omega
/-- A text's bytes as numbers. -/
def kbS (S : ByteArray) : List Int := S.data.toList.map fun b => (b.toNat : Int)
theorem kbS_len (S : ByteArray) : (kbS S).length = S.size := by unfold kbS; rw [List.length_map]; rfl
theorem convS_sl (w : World) (e : TypeId) (S : ByteArray) (hS : S.size ≤ 140737488355328) : Sl (Lib.bytesWorld w e S) 1 (.slice (some ⟨w.heap.size, 0, none⟩) S.size (grownCap w S.size 0 e)) S.size ((kbS S).map (Value.int .u8)) := by
  refine ⟨some ⟨w.heap.size, 0, none⟩, grownCap w S.size 0 e, rfl, grownCap_ge w S.size 0 e, ?_, fun h => by simp at h, by rw [List.length_map, kbS_len, Nat.mul_one], fun _ => ⟨w.heap.size, 0, rfl, fun j u hu => ?_⟩⟩
  · have h := grownCap_le_maxLen w S.size 0 e (by have : maxLen = 9223372036854775807 := by decide
                                                  omega)
    have : maxLen = 9223372036854775807 := by decide
    omega
  · have hj : j < S.size := by
      have := (List.getElem?_eq_some_iff.1 hu).1
      rw [List.length_map, kbS_len] at this
      exact this
    rw [Nat.zero_add, Lib.bytesWorld_cell w e S j hj]
    unfold kbS at hu
    rw [List.map_map, List.getElem?_map] at hu
    have hj2 : j < S.data.toList.length := hj
    rw [List.getElem?_eq_getElem hj2] at hu
    simp only [Option.map_some, Function.comp] at hu
    rw [List.getD_eq_getElem?_getD, List.getElem?_eq_getElem hj2]
    exact hu
theorem convS_below (w : World) (e : TypeId) (S : ByteArray) : Below w.heap.size w (Lib.bytesWorld w e S) :=
  ⟨rfl, rfl, rfl, by rw [Lib.bytesWorld_size]; omega, fun k hk => Lib.bytesWorld_at_old w e S k hk⟩
theorem convS_cell (w : World) (e : TypeId) (S : ByteArray) {B j : Nat} (hB : B < w.heap.size) : (Lib.bytesWorld w e S).cell? ⟨B, j, none⟩ = w.cell? ⟨B, j, none⟩ := by
  have := Lib.bytesWorld_at_old w e S B hB
  simp only [World.cell?, this]
theorem kbS_mk (l : By) : kbS (mkS l) = l.map fun b => (b.toNat : Int) := by unfold kbS mkS; rw [List.toList_toArray]
end Go.Gh
