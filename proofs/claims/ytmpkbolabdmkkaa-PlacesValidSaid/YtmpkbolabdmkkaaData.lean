/- THE DATA of chapter 7 as plain Lean: options, rules, problems, and what the functions answer, with no program in sight. -/
namespace Go.Proofs.Ytmpkbolabdmkkaa

structure Opt where
  piece : Int
  shift : Int
  back : Bool
  colour : Int
deriving Inhabited, DecidableEq

structure Rl where
  item : Int
  kind : Int
  panes : List Int
  hits : List (List Bool)
  lo : Int
  hi : Int
  ok : List (List Bool)
deriving Inhabited, DecidableEq

structure Prob where
  panes : List Int
  opts : List (List Opt)
  rules : List Rl
deriving Inhabited, DecidableEq

/-- the i-th element; closed to simp -/
def nth {α : Type} [Inhabited α] (l : List α) (i : Nat) : α := l.getD i default
theorem nth_eq {α : Type} [Inhabited α] (l : List α) (i : Nat) (h : i < l.length) : nth l i = l[i] := by unfold nth; simp [List.getD, h]

theorem all_step {P : Nat → Prop} {k : Nat} (h : ∀ i, i < k → P i) (hk : P k) : ∀ i, i < k + 1 → P i := fun i hi => by
  rcases Nat.lt_succ_iff_lt_or_eq.1 hi with h' | rfl
  · exact h i h'
  · exact hk

/-- a number is from lo to hi -/
def wi (n lo hi : Int) : Bool := decide (lo ≤ n ∧ n ≤ hi)
theorem wi_iff {n lo hi : Int} : wi n lo hi = true ↔ lo ≤ n ∧ n ≤ hi := by simp [wi]
theorem wi_no {n lo hi : Int} : wi n lo hi = false ↔ n < lo ∨ hi < n := by simp [wi]; omega

/-- an option is one -/
def optOK (o : Opt) : Bool := (!(o.piece == 0) || (o.shift == 0 && !o.back)) && wi o.piece 0 65535 && wi o.shift 0 23 && wi o.colour 1 16

/-- an option stands before another one -/
def optLt (a b : Opt) : Bool :=
  if a.piece ≠ b.piece then decide (a.piece ≠ 0 ∧ (b.piece = 0 ∨ a.piece < b.piece))
  else if a.shift ≠ b.shift then decide (a.shift < b.shift)
  else if a.back ≠ b.back then b.back
  else decide (a.colour < b.colour)

/-- a list of options may be that of a pane -/
def optsOK (l : List Opt) : Bool := decide (1 ≤ l.length ∧ l.length ≤ 256 ∧ ∀ i, i < l.length → optOK (nth l i) = true ∧ (0 < i → optLt (nth l (i - 1)) (nth l i) = true))
theorem optsOK_no {l : List Opt} (h : ¬ (1 ≤ l.length ∧ l.length ≤ 256)) : optsOK l = false := by
  unfold optsOK; simp; intro h1 h2; exact absurd ⟨h1, h2⟩ h
theorem optsOK_bad {l : List Opt} {i : Nat} (hi : i < l.length) (h : optOK (nth l i) = false ∨ (0 < i ∧ optLt (nth l (i - 1)) (nth l i) = false)) : optsOK l = false := by
  unfold optsOK; simp; intro _ _; refine ⟨i, hi, ?_⟩; rcases h with h | h <;> simp [h]
theorem optsOK_yes {l : List Opt} (h : 1 ≤ l.length ∧ l.length ≤ 256) (h' : ∀ i, i < l.length → optOK (nth l i) = true ∧ (0 < i → optLt (nth l (i - 1)) (nth l i) = true)) : optsOK l = true := by
  unfold optsOK; simp; exact ⟨h.1, h.2, fun i hi => by simpa using h' i hi⟩

/-- a rule that counts is as it must be -/
def cntOK (p : Prob) (r : Rl) : Bool := decide (r.hits.length = r.panes.length ∧ r.ok.length = 0 ∧ ∀ i, i < r.panes.length →
  wi (nth r.panes i) 0 ((p.panes.length : Int) - 1) = true ∧ (0 < i → nth r.panes (i - 1) < nth r.panes i) ∧ (nth r.hits i).length = (nth p.opts (nth r.panes i).toNat).length)
theorem cntOK_no {p : Prob} {r : Rl} (h : ¬ (r.hits.length = r.panes.length ∧ r.ok.length = 0)) : cntOK p r = false := by
  unfold cntOK; simp; intro h1 h2; exact absurd ⟨h1, by simp [h2]⟩ h
theorem cntOK_bad {p : Prob} {r : Rl} {i : Nat} (hi : i < r.panes.length) (h : wi (nth r.panes i) 0 ((p.panes.length : Int) - 1) = false ∨ (0 < i ∧ nth r.panes i ≤ nth r.panes (i - 1)) ∨ (nth r.hits i).length ≠ (nth p.opts (nth r.panes i).toNat).length) : cntOK p r = false := by
  unfold cntOK; rw [decide_eq_false_iff_not]; rintro ⟨_, _, h3⟩
  obtain ⟨a, b, c⟩ := h3 i hi
  rcases h with h | ⟨h, h'⟩ | h
  · rw [h] at a; cases a
  · have := b h; omega
  · exact h c
theorem cntOK_yes {p : Prob} {r : Rl} (h : r.hits.length = r.panes.length ∧ r.ok.length = 0) (h' : ∀ i, i < r.panes.length →
    wi (nth r.panes i) 0 ((p.panes.length : Int) - 1) = true ∧ (0 < i → nth r.panes (i - 1) < nth r.panes i) ∧ (nth r.hits i).length = (nth p.opts (nth r.panes i).toNat).length) : cntOK p r = true := by
  unfold cntOK; rw [decide_eq_true_iff]; exact ⟨h.1, h.2, h'⟩

/-- a rule of pairs is as it must be -/
def pairHead (r : Rl) : Bool := decide (r.panes.length = 2 ∧ r.hits.length = 0 ∧ r.lo = 0 ∧ r.hi = 0)
def pairOK (p : Prob) (r : Rl) : Bool := pairHead r && decide (nth r.panes 0 ≠ nth r.panes 1) && wi (nth r.panes 0) 0 ((p.panes.length : Int) - 1) && wi (nth r.panes 1) 0 ((p.panes.length : Int) - 1) &&
  decide (r.ok.length = (nth p.opts (nth r.panes 0).toNat).length) && decide (∀ i, i < r.ok.length → (nth r.ok i).length = (nth p.opts (nth r.panes 1).toNat).length)
theorem pairHead_iff {r : Rl} : pairHead r = true ↔ r.panes.length = 2 ∧ r.hits.length = 0 ∧ r.lo = 0 ∧ r.hi = 0 := by unfold pairHead; rw [decide_eq_true_iff]
theorem pairOK_iff {p : Prob} {r : Rl} : pairOK p r = true ↔ (r.panes.length = 2 ∧ r.hits.length = 0 ∧ r.lo = 0 ∧ r.hi = 0) ∧ nth r.panes 0 ≠ nth r.panes 1 ∧ wi (nth r.panes 0) 0 ((p.panes.length : Int) - 1) = true ∧ wi (nth r.panes 1) 0 ((p.panes.length : Int) - 1) = true ∧
    r.ok.length = (nth p.opts (nth r.panes 0).toNat).length ∧ ∀ i, i < r.ok.length → (nth r.ok i).length = (nth p.opts (nth r.panes 1).toNat).length := by
  unfold pairOK; simp only [Bool.and_eq_true, decide_eq_true_iff, pairHead_iff, and_assoc]
theorem pairOK_no {p : Prob} {r : Rl} (h : ¬ ((r.panes.length = 2 ∧ r.hits.length = 0 ∧ r.lo = 0 ∧ r.hi = 0) ∧ nth r.panes 0 ≠ nth r.panes 1 ∧ wi (nth r.panes 0) 0 ((p.panes.length : Int) - 1) = true ∧ wi (nth r.panes 1) 0 ((p.panes.length : Int) - 1) = true ∧
    r.ok.length = (nth p.opts (nth r.panes 0).toNat).length ∧ ∀ i, i < r.ok.length → (nth r.ok i).length = (nth p.opts (nth r.panes 1).toNat).length)) : pairOK p r = false := by
  rw [← Bool.not_eq_true, pairOK_iff]; exact h

/-- a rule is one -/
def ruleOK (p : Prob) (r : Rl) : Bool := (r.kind == 1 && cntOK p r) || (r.kind == 2 && pairOK p r)

/-- the items of the first k rules, each once where they do not decrease -/
def itemsTo (l : List Rl) : Nat → List Int
  | 0 => []
  | k + 1 => if k = 0 ∨ (nth l k).item ≠ (nth l (k - 1)).item then itemsTo l k ++ [(nth l k).item] else itemsTo l k
def items (p : Prob) : List Int := itemsTo p.rules p.rules.length
theorem itemsTo_len (l : List Rl) : ∀ k, (itemsTo l k).length ≤ k
  | 0 => Nat.le_refl _
  | k + 1 => by unfold itemsTo; have := itemsTo_len l k; split <;> simp <;> omega

/-- the problem is valid -/
def paneOK (p : Prob) (i : Nat) : Bool := wi (nth p.panes i) 1 64 && decide (0 < i → nth p.panes (i - 1) < nth p.panes i) && optsOK (nth p.opts i)
def ruleAtOK (p : Prob) (i : Nat) : Bool := wi (nth p.rules i).item 1 65535 && decide (0 < i → (nth p.rules (i - 1)).item ≤ (nth p.rules i).item) && ruleOK p (nth p.rules i)
def validP (p : Prob) : Bool := decide (p.opts.length = p.panes.length ∧ p.rules.length ≤ 256) && decide (∀ i, i < p.panes.length → paneOK p i = true) && decide (∀ i, i < p.rules.length → ruleAtOK p i = true) && decide ((items p).length ≤ 16)
theorem validP_iff {p : Prob} : validP p = true ↔ (p.opts.length = p.panes.length ∧ p.rules.length ≤ 256) ∧ (∀ i, i < p.panes.length → paneOK p i = true) ∧ (∀ i, i < p.rules.length → ruleAtOK p i = true) ∧ (items p).length ≤ 16 := by
  unfold validP; simp only [Bool.and_eq_true, decide_eq_true_iff, and_assoc]
theorem paneOK_iff {p : Prob} {i : Nat} : paneOK p i = true ↔ wi (nth p.panes i) 1 64 = true ∧ (0 < i → nth p.panes (i - 1) < nth p.panes i) ∧ optsOK (nth p.opts i) = true := by
  unfold paneOK; simp only [Bool.and_eq_true, decide_eq_true_iff, and_assoc]
theorem ruleAtOK_iff {p : Prob} {i : Nat} : ruleAtOK p i = true ↔ wi (nth p.rules i).item 1 65535 = true ∧ (0 < i → (nth p.rules (i - 1)).item ≤ (nth p.rules i).item) ∧ ruleOK p (nth p.rules i) = true := by
  unfold ruleAtOK; simp only [Bool.and_eq_true, decide_eq_true_iff, and_assoc]
theorem valid_no1 {p : Prob} (h : ¬ (p.opts.length = p.panes.length ∧ p.rules.length ≤ 256)) : validP p = false := by
  rw [← Bool.not_eq_true, validP_iff]; exact fun h' => h h'.1
theorem valid_no2 {p : Prob} {i : Nat} (hi : i < p.panes.length) (h : wi (nth p.panes i) 1 64 = false ∨ (0 < i ∧ nth p.panes i ≤ nth p.panes (i - 1)) ∨ optsOK (nth p.opts i) = false) : validP p = false := by
  rw [← Bool.not_eq_true, validP_iff]; rintro ⟨_, h2, _⟩
  obtain ⟨a, b, c⟩ := paneOK_iff.1 (h2 i hi)
  rcases h with h | ⟨h, h'⟩ | h
  · rw [h] at a; cases a
  · have := b h; omega
  · rw [h] at c; cases c
theorem valid_no3 {p : Prob} {i : Nat} (hi : i < p.rules.length) (h : wi (nth p.rules i).item 1 65535 = false ∨ (0 < i ∧ (nth p.rules i).item < (nth p.rules (i - 1)).item) ∨ ruleOK p (nth p.rules i) = false) : validP p = false := by
  rw [← Bool.not_eq_true, validP_iff]; rintro ⟨_, _, h2, _⟩
  obtain ⟨a, b, c⟩ := ruleAtOK_iff.1 (h2 i hi)
  rcases h with h | ⟨h, h'⟩ | h
  · rw [h] at a; cases a
  · have := b h; omega
  · rw [h] at c; cases c
theorem valid_end {p : Prob} (h1 : p.opts.length = p.panes.length ∧ p.rules.length ≤ 256) (h2 : ∀ i, i < p.panes.length → paneOK p i = true) (h3 : ∀ i, i < p.rules.length → ruleAtOK p i = true) : validP p = decide ((items p).length ≤ 16) := by
  rw [Bool.eq_iff_iff, validP_iff, decide_eq_true_iff]; exact ⟨fun h => h.2.2.2, fun h => ⟨h1, h2, h3, h⟩⟩
theorem rising_ge {l : List Int} {lo : Int} (h : ∀ i, i < l.length → lo ≤ nth l i ∧ (0 < i → nth l (i - 1) < nth l i)) : ∀ i, i < l.length → lo + i ≤ nth l i
  | 0, hi => by have := (h 0 hi).1; simpa using this
  | i + 1, hi => by have h1 := rising_ge h i (by omega); have h2 := (h (i + 1) hi).2 (by omega); simp at h2; omega
theorem valid_panes {p : Prob} (h : ∀ i, i < p.panes.length → paneOK p i = true) : p.panes.length ≤ 64 := by
  rcases Nat.lt_or_ge 64 p.panes.length with hlt | hle
  · have := rising_ge (l := p.panes) (lo := 1) (fun i hi => ⟨(wi_iff.1 (paneOK_iff.1 (h i hi)).1).1, (paneOK_iff.1 (h i hi)).2.1⟩) 64 hlt
    have h2 := (wi_iff.1 (paneOK_iff.1 (h 64 hlt)).1).2
    omega
  · exact hle

end Go.Proofs.Ytmpkbolabdmkkaa
