/-
  Gossip: what is told and merged comes to the same.
-/
import Derived.Test.YtcljeedmiobepaaGosLaw
namespace Go.Gh
set_option linter.unusedVariables false
section
variable {α : Type} {k : α → Int} {both : α → α → α}
theorem mrg_front : ∀ (F : List α) (x : α) (a : List α), (∀ z ∈ F, k x < k z) → mrgG k both (x :: a) F = x :: mrgG k both a F
  | [], x, a, _ => by rw [mrgG_nil, mrgG_nil]
  | y :: F, x, a, h => by rw [mrgG_lt (h y (by simp))]
theorem mrg_filter (p : α → Bool) (n : Nat) : ∀ (a b : List α), a.length + b.length ≤ n → AscG k a → AscG k b → (∀ y ∈ b, p y = false → ∃ x ∈ a, k x = k y ∧ both x y = x) → mrgG k both a (b.filter p) = mrgG k both a b := by
  induction n with
  | zero =>
    intro a b hn _ _ _
    obtain rfl : b = [] := List.length_eq_zero_iff.1 (by omega)
    rfl
  | succ n ih =>
    intro a b hn ha hb hp
    match a, b with
    | [], b =>
      have : b.filter p = b := by
        rw [List.filter_eq_self]
        intro y hy
        cases hpy : p y with
        | true => rfl
        | false => obtain ⟨x, hx, _⟩ := hp y hy hpy; simp at hx
      rw [this]
    | x :: a, [] => rfl
    | x :: a, y :: b =>
      have ha' := List.pairwise_cons.1 ha
      have hb' := List.pairwise_cons.1 hb
      rw [List.length_cons, List.length_cons] at hn
      rcases Int.lt_trichotomy (k x) (k y) with h | h | h
      · have hall : ∀ z ∈ y :: b, k x < k z := by
          intro z hz
          rcases List.mem_cons.1 hz with h' | h'
          · rw [h']; exact h
          · have := hb'.1 z h'; omega
        rw [mrgG_lt h, mrg_front _ x a (fun z hz => hall z (List.mem_filter.1 hz).1), ih a (y :: b) (by rw [List.length_cons]; omega) ha'.2 hb]
        intro z hz hpz
        obtain ⟨x', hx', he, hbo⟩ := hp z hz hpz
        rcases List.mem_cons.1 hx' with h' | h'
        · have := hall z hz
          rw [h'] at he
          omega
        · exact ⟨x', h', he, hbo⟩
      · have hrest : ∀ z ∈ b, p z = false → ∃ x' ∈ a, k x' = k z ∧ both x' z = x' := by
          intro z hz hpz
          obtain ⟨x', hx', he, hbo⟩ := hp z (by simp [hz]) hpz
          rcases List.mem_cons.1 hx' with h' | h'
          · have := hb'.1 z hz
            rw [h'] at he
            omega
          · exact ⟨x', h', he, hbo⟩
        have hih := ih a b (by omega) ha'.2 hb'.2 hrest
        rw [mrgG_eq h]
        cases hpy : p y with
        | true => rw [List.filter_cons, if_pos hpy, mrgG_eq h, hih]
        | false =>
          obtain ⟨x', hx', he, hbo⟩ := hp y (by simp) hpy
          have hxx : x' = x := by
            rcases List.mem_cons.1 hx' with h' | h'
            · exact h'
            · have := ha'.1 x' h'
              omega
          subst hxx
          rw [List.filter_cons, if_neg (by rw [hpy]; simp), mrg_front _ x' a (fun z hz => by have := hb'.1 z (List.mem_filter.1 hz).1; omega), hih, hbo]
      · have hpy : p y = true := by
          cases hpy : p y with
          | true => rfl
          | false =>
            obtain ⟨x', hx', he, _⟩ := hp y (by simp) hpy
            rcases List.mem_cons.1 hx' with h' | h'
            · rw [h'] at he; omega
            · have := ha'.1 x' h'; omega
        rw [List.filter_cons, if_pos hpy, mrgG_gt h, mrgG_gt h, ih (x :: a) b (by rw [List.length_cons]; omega) ha hb'.2]
        intro z hz hpz
        exact hp z (by simp [hz]) hpz
theorem mrg_comm (n : Nat) : ∀ (a b : List α), a.length + b.length ≤ n → (∀ x ∈ a, ∀ y ∈ b, k x = k y → both x y = both y x) → mrgG k both a b = mrgG k both b a := by
  induction n with
  | zero =>
    intro a b hn _
    obtain rfl : a = [] := List.length_eq_zero_iff.1 (by omega)
    obtain rfl : b = [] := List.length_eq_zero_iff.1 (by omega)
    rfl
  | succ n ih =>
    intro a b hn hc
    match a, b with
    | [], b => rw [mrgG_nil, mrgG_nil']
    | x :: a, [] => rw [mrgG_nil, mrgG_nil']
    | x :: a, y :: b =>
      rw [List.length_cons, List.length_cons] at hn
      rcases Int.lt_trichotomy (k x) (k y) with h | h | h
      · rw [mrgG_lt h, mrgG_gt h, ih a (y :: b) (by rw [List.length_cons]; omega) (fun x' hx' y' hy' => hc x' (by simp [hx']) y' hy')]
      · rw [mrgG_eq h, mrgG_eq h.symm, hc x (by simp) y (by simp) h, ih a b (by omega) (fun x' hx' y' hy' => hc x' (by simp [hx']) y' (by simp [hy']))]
      · rw [mrgG_gt h, mrgG_lt h, ih (x :: a) b (by rw [List.length_cons]; omega) (fun x' hx' y' hy' => hc x' hx' y' (by simp [hy']))]
end
/-! ### claims -/
theorem cmpT_anti : ∀ x y : List Int, cmpT y x = - cmpT x y
  | [], [] => rfl
  | [], _ :: _ => rfl
  | _ :: _, [] => rfl
  | a :: x, b :: y => by
    rw [cmpT, cmpT]
    rcases Int.lt_trichotomy a b with h | h | h
    · rw [if_neg (by omega), if_pos h, if_pos h]; rfl
    · subst h
      rw [if_neg (by omega), if_neg (by omega), if_neg (by omega), if_neg (by omega)]
      exact cmpT_anti x y
    · rw [if_pos h, if_neg (by omega), if_pos h]
theorem cmpI_anti (a b : Int) : cmpI b a = - cmpI a b := by
  unfold cmpI
  rcases Int.lt_trichotomy a b with h | h | h
  · rw [if_neg (by omega), if_pos h, if_pos h]; rfl
  · subst h; simp
  · rw [if_pos h, if_neg (by omega), if_pos h]
theorem cmpI_zero {a b : Int} (h : cmpI a b = 0) : a = b := by
  unfold cmpI at h
  split at h
  · omega
  · split at h
    · omega
    · omega
theorem cmpT_zero : ∀ {x y : List Int}, cmpT x y = 0 → x = y
  | [], [], _ => rfl
  | [], _ :: _, h => by rw [cmpT] at h; omega
  | _ :: _, [], h => by rw [cmpT] at h; omega
  | a :: x, b :: y, h => by
    rw [cmpT] at h
    split at h
    · omega
    · split at h
      · omega
      · rw [show a = b by omega, cmpT_zero h]
theorem cmpC_anti (a b : Cl) : cmpC b a = - cmpC a b := by
  unfold cmpC
  rw [cmpI_anti a.ver b.ver, cmpI_anti a.st b.st, cmpT_anti a.tk b.tk]
  by_cases h1 : cmpI a.ver b.ver = 0
  · by_cases h2 : cmpI a.st b.st = 0
    · simp [h1, h2]
    · simp [h1, h2]
  · simp [h1]
theorem cmpC_zero {a b : Cl} (h : cmpC a b = 0) : a.ver = b.ver ∧ a.st = b.st ∧ a.tk = b.tk := by
  unfold cmpC at h
  by_cases h1 : cmpI a.ver b.ver = 0
  · by_cases h2 : cmpI a.st b.st = 0
    · simp [h1, h2] at h
      exact ⟨cmpI_zero h1, cmpI_zero h2, cmpT_zero h⟩
    · simp [h1, h2] at h
  · simp [h1] at h
theorem newC_comm {x y : Cl} (hx : x.nm.size ≤ 20) (hy : y.nm.size ≤ 20) (h : kc x = kc y) : newC x y = newC y x := by
  unfold newC newerC
  rw [cmpC_anti x y]
  rcases Int.lt_trichotomy (cmpC x y) 0 with h1 | h1 | h1
  · rw [decide_eq_true (show 0 < - cmpC x y by omega), decide_eq_false (show ¬ 0 < cmpC x y by omega)]; rfl
  · obtain ⟨e1, e2, e3⟩ := cmpC_zero h1
    have e4 : x.nm = y.nm := nm_ext (key_same 20 _ _ (by simpa using hx) (by simpa using hy) h)
    have : x = y := by
      cases x; cases y
      simp_all
    rw [this]
    simp
  · rw [decide_eq_false (show ¬ 0 < - cmpC x y by omega), decide_eq_true (show 0 < cmpC x y by omega)]; rfl
theorem mrgC_comm {a b : List Cl} (ha : claimsF a = 0) (hb : claimsF b = 0) : mrgC a b = mrgC b a :=
  mrg_comm (a.length + b.length) a b (Nat.le_refl _) fun x hx y hy h => newC_comm (node_zero ((claims_zero ha).2.1 x hx).1).2.1 (node_zero ((claims_zero hb).2.1 y hy).1).2.1 h
theorem goF_ok : ∀ (L : List Cl) (p : Option Cl), (∀ c ∈ L, nodeF c.nm c.tk = 0 ∧ 0 ≤ c.ver ∧ 1 ≤ c.st ∧ c.st ≤ 4) → (L.Pairwise fun c d => keyS c.nm < keyS d.nm) → (∀ q, p = some q → ∀ c ∈ L, keyS q.nm < keyS c.nm) → goF p L = 0
  | [], _, _, _, _ => by rw [goF]
  | c :: L, p, h1, h2, h3 => by
    have hc := h1 c (by simp)
    have h2' := List.pairwise_cons.1 h2
    have hk : ¬ keyS c.nm ≤ pkc p := by
      match p, h3 with
      | none, _ => have := (node_key hc.1).1; unfold pkc; simp only; omega
      | some q, h3 => have := h3 q rfl c (by simp); unfold pkc; simp only; omega
    rw [goF_on hc.1 hk (by omega)]
    exact goF_ok L (some c) (fun d hd => h1 d (by simp [hd])) h2'.2 (fun q hq d hd => by rw [← Option.some.inj hq]; exact h2'.1 d hd)
theorem claims_ok {L : List Cl} (hl : L.length ≤ 20) (h1 : ∀ c ∈ L, nodeF c.nm c.tk = 0 ∧ 0 ≤ c.ver ∧ 1 ≤ c.st ∧ c.st ≤ 4) (h2 : L.Pairwise fun c d => keyS c.nm < keyS d.nm) : claimsF L = 0 := by
  unfold claimsF
  rw [if_neg (by omega)]
  exact goF_ok L none h1 h2 (fun q hq => by simp at hq)
theorem claims_filter {L : List Cl} (p : Cl → Bool) (h : claimsF L = 0) : claimsF (L.filter p) = 0 := by
  obtain ⟨h1, h2, h3⟩ := claims_zero h
  exact claims_ok (Nat.le_trans (List.length_filter_le _ _) h1) (fun c hc => h2 c (List.mem_filter.1 hc).1) (h3.sublist List.filter_sublist)
theorem dig_seen {L : List Cl} (h : claimsF L = 0) : seenF (digF L) = 0 := by
  obtain ⟨h1, h2, h3⟩ := claims_zero h
  unfold seenF
  rw [if_neg (by unfold digF; rw [List.length_map]; omega), if_neg]
  have : ∀ (M : List Cl) (p : Option Cl), (∀ c ∈ M, c.nm.size ≤ 20) → (∀ q, p = some q → q.nm.size ≤ 20) → (M.Pairwise fun c d => keyS c.nm < keyS d.nm) → (∀ q, p = some q → ∀ c ∈ M, keyS q.nm < keyS c.nm) → seenGo (p.map fun c => ⟨c.nm, c.ver⟩) (digF M) = false := by
    intro M
    induction M with
    | nil => intro p _ _ _ _; cases p <;> rfl
    | cons c M ih =>
      intro p g1 g2 g3 g4
      have g3' := List.pairwise_cons.1 g3
      have hrest := ih (some c) (fun d hd => g1 d (by simp [hd])) (fun q hq => by rw [← Option.some.inj hq]; exact g1 c (by simp)) g3'.2 (fun q hq d hd => by rw [← Option.some.inj hq]; exact g3'.1 d hd)
      cases p with
      | none => exact hrest
      | some q =>
        show (leB c.nm q.nm || seenGo (some ⟨c.nm, c.ver⟩) (digF M)) = false
        have hlt := g4 q rfl c (by simp)
        rw [leB_key (f := 20) (g1 c (by simp)) (g2 q rfl), decide_eq_false (by unfold keyS at hlt; omega)]
        exact hrest
  have h0 := this L none (fun c hc => (node_zero (h2 c hc).1).2.1) (fun q hq => by simp at hq) h3 (fun q hq => by simp at hq)
  simp only [Option.map_none] at h0
  rw [h0]
  simp
/-- What one has, when another one has told it what it lacks. -/
theorem told_eq {a b : List Cl} (ha : claimsF a = 0) (hb : claimsF b = 0) : mrgC a (deltaF b (digF a)) = mrgC a b := by
  unfold mrgC deltaF
  refine mrg_filter _ (a.length + b.length) a b (Nat.le_refl _) (claims_zero ha).2.2 (claims_zero hb).2.2 ?_
  intro y hy hp
  unfold lacksF at hp
  obtain ⟨z, hz, h⟩ := List.all_eq_false.1 hp
  unfold digF at hz
  obtain ⟨x, hx, rfl⟩ := List.mem_map.1 hz
  have h2 : nmEq x.nm y.nm = true ∧ y.ver < x.ver := by simpa using h
  have hk : kc x = kc y := by unfold kc keyS; rw [nmEq_iff.1 h2.1]
  refine ⟨x, hx, hk, ?_⟩
  unfold newC newerC cmpC
  have : cmpI y.ver x.ver = -1 := by unfold cmpI; rw [if_pos h2.2]
  rw [this]
  rfl
end Go.Gh
