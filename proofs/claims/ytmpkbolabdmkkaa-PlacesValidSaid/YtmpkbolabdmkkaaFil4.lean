/- WITNESSES, NEXT FILLINGS, WHERE, FORCED, as plain functions. -/
import Derived.Test.YtmpkbolabdmkkaaFil3
namespace Go.Proofs.Ytmpkbolabdmkkaa

theorem find_at {l : List (List Int)} {P : List Int → Bool} : ∀ {k : Nat}, k < l.length → P (nth l k) = true → (∀ i, i < k → P (nth l i) = false) → l.find? P = some (nth l k) := by
  induction l with
  | nil => intro k h; exact absurd h (Nat.not_lt_zero _)
  | cons a l ih =>
    intro k hk hp hn
    cases k with
    | zero => rw [List.find?_cons]; have : nth (a :: l) 0 = a := rfl; rw [this] at hp ⊢; rw [hp]
    | succ k =>
      have h0 := hn 0 (by omega)
      have e0 : nth (a :: l) 0 = a := rfl
      have e1 : ∀ i, nth (a :: l) (i + 1) = nth l i := fun i => by unfold nth; simp [List.getD]
      rw [e0] at h0
      rw [List.find?_cons, h0, e1]
      exact ih (by simpa using hk) (by rw [← e1]; exact hp) (fun i hi => by rw [← e1]; exact hn (i + 1) (by omega))
theorem find_none {l : List (List Int)} {P : List Int → Bool} (h : ∀ i, i < l.length → P (nth l i) = false) : l.find? P = none := by
  rw [List.find?_eq_none]
  intro x hx
  obtain ⟨i, hi, rfl⟩ := List.getElem_of_mem hx
  have := h i hi
  rw [nth_eq l i hi] at this
  simp [this]

theorem lessTo_yes {a b : List Int} : ∀ {n i : Nat}, nth a i ≠ nth b i → lessTo a b (n + 1) i = decide (nth a i < nth b i) := fun h => by show (if _ then _ else _) = _; rw [if_pos h]
theorem lessTo_no {a b : List Int} : ∀ {n i : Nat}, nth a i = nth b i → lessTo a b (n + 1) i = lessTo a b n (i + 1) := fun h => by show (if _ then _ else _) = _; rw [if_neg (by simpa using h)]

/-- a problem has a pane with an option -/
def thereB (p : Prob) (pane o : Int) : Bool := wi pane 0 ((p.panes.length : Int) - 1) && wi o 0 (((nth p.opts pane.toNat).length : Int) - 1)
def hasB (pane o : Int) (f : List Int) : Bool := nth f pane.toNat == o
def witE (p : Prob) (pane o : Int) : Int := if validP p = false then 70 else if thereB p pane o = false then 1 else if 65536 < total p then 2 else if ((agr p).find? (hasB pane o)).isSome then 0 else 3
def witL (p : Prob) (pane o : Int) : List Int := if witE p pane o = 0 then optL ((agr p).find? (hasB pane o)) else []

/-- a filling lays a piece in pane i -/
def usesAt (p : Prob) (f : List Int) (piece : Int) (i : Nat) : Bool := pieceAt p f i == piece
/-- .. in some pane -/
def usesAny (p : Prob) (f : List Int) (piece : Int) : Bool := decide (∃ i, i < f.length ∧ usesAt p f piece i = true)
/-- what 'uses' answers: pane -1: any -/
def usesB (p : Prob) (f : List Int) (pane piece : Int) : Bool := decide (∃ i, i < f.length ∧ (pane < 0 ∨ pane = i) ∧ pieceAt p f i = piece)
theorem usesB_yes {p : Prob} {f : List Int} {pane piece : Int} {i : Nat} (hi : i < f.length) (h : pane < 0 ∨ pane = i) (h' : pieceAt p f i = piece) : usesB p f pane piece = true := by
  unfold usesB; rw [decide_eq_true_iff]; exact ⟨i, hi, h, h'⟩
theorem usesB_no {p : Prob} {f : List Int} {pane piece : Int} (h : ∀ i, i < f.length → ¬ ((pane < 0 ∨ pane = i) ∧ pieceAt p f i = piece)) : usesB p f pane piece = false := by
  unfold usesB; rw [decide_eq_false_iff_not]; rintro ⟨i, hi, h'⟩; exact h i hi h'
def foundTo (p : Prob) (piece : Int) (k : Nat) : Nat → Bool
  | 0 => false
  | n + 1 => foundTo p piece k n || usesB p (nth (agr p) n) k piece
def nowTo (p : Prob) (piece : Int) : Nat → Bool
  | 0 => false
  | n + 1 => nowTo p piece n || !usesB p (nth (agr p) n) (-1) piece
def whereTo (p : Prob) (piece : Int) : Nat → List Int
  | 0 => []
  | k + 1 => if foundTo p piece k (agr p).length = true then whereTo p piece k ++ [nth p.panes k] else whereTo p piece k
theorem whereTo_len (p : Prob) (piece : Int) : ∀ k, (whereTo p piece k).length ≤ k
  | 0 => Nat.le_refl _
  | k + 1 => by unfold whereTo; have := whereTo_len p piece k; split <;> simp <;> omega
def whereE (p : Prob) (piece : Int) : Int := if validP p = false then 70 else if wi piece 1 65535 = false then 1 else if 65536 < total p then 2 else 0
def whereL (p : Prob) (piece : Int) : List Int := if whereE p piece = 0 then whereTo p piece p.panes.length else []
def nowB (p : Prob) (piece : Int) : Bool := decide (whereE p piece = 0) && nowTo p piece (agr p).length

/-- the first agreeing filling, -1 where one of the first k agreeing ones differs -/
def forcedAt (p : Prob) (n k : Nat) : Int := if ∀ i, i < n → nth (nth (agr p) i) k = nth (firstL p) k then nth (firstL p) k else -1
/-- the list of it, the first m panes having gone through one list more than n -/
def forcedL (p : Prob) (n m : Nat) : List Int := (List.range p.opts.length).map fun k => if k < m then forcedAt p (n + 1) k else forcedAt p n k
def forcedR (p : Prob) : List Int := if firstE p = 0 then forcedL p (agr p).length 0 else []
theorem forcedL_len (p : Prob) (n m : Nat) : (forcedL p n m).length = p.opts.length := by simp [forcedL]
theorem nth_forcedL {p : Prob} {n m k : Nat} (h : k < p.opts.length) : nth (forcedL p n m) k = if k < m then forcedAt p (n + 1) k else forcedAt p n k := by
  rw [nth_eq _ _ (by rw [forcedL_len]; exact h)]; simp [forcedL]
theorem forcedL_start {p : Prob} (h : (firstL p).length = p.opts.length) : forcedL p 0 0 = firstL p := by
  refine ext_nth (by rw [forcedL_len, h]) fun i hi => ?_
  rw [forcedL_len] at hi
  rw [nth_forcedL hi, if_neg (by omega)]
  unfold forcedAt; rw [if_pos (fun _ h => absurd h (Nat.not_lt_zero _))]
theorem forcedL_row (p : Prob) (n : Nat) : forcedL p n p.opts.length = forcedL p (n + 1) 0 := by
  refine ext_nth (by rw [forcedL_len, forcedL_len]) fun i hi => ?_
  rw [forcedL_len] at hi
  rw [nth_forcedL hi, nth_forcedL hi, if_pos hi, if_neg (by omega)]
theorem forcedAt_or (p : Prob) (n k : Nat) : forcedAt p n k = nth (firstL p) k ∨ forcedAt p n k = -1 := by unfold forcedAt; split <;> simp
/-- one place on: unchanged where the list has what is kept there -/
theorem forcedAt_same {p : Prob} {n k : Nat} (h : nth (nth (agr p) n) k = forcedAt p n k) (h0 : 0 ≤ nth (nth (agr p) n) k) : forcedAt p (n + 1) k = forcedAt p n k := by
  have h1 : forcedAt p n k = nth (firstL p) k := by rcases forcedAt_or p n k with h1 | h1 <;> omega
  by_cases hc : ∀ i, i < n → nth (nth (agr p) i) k = nth (firstL p) k
  · unfold forcedAt
    rw [if_pos hc, if_pos]
    exact all_step hc (by rw [h, h1])
  · have : forcedAt p n k = -1 := by unfold forcedAt; rw [if_neg hc]
    omega
theorem forcedAt_other {p : Prob} {n k : Nat} (h : nth (nth (agr p) n) k ≠ forcedAt p n k) : forcedAt p (n + 1) k = -1 := by
  unfold forcedAt
  rw [if_neg]
  intro hc
  apply h
  have : forcedAt p n k = nth (firstL p) k := by unfold forcedAt; rw [if_pos (fun i hi => hc i (by omega))]
  rw [this]; exact hc n (by omega)
theorem forcedL_same {p : Prob} {n m : Nat} (hm : m < p.opts.length) (h : nth (nth (agr p) n) m = forcedAt p n m) (h0 : 0 ≤ nth (nth (agr p) n) m) : forcedL p n (m + 1) = forcedL p n m := by
  refine ext_nth (by rw [forcedL_len, forcedL_len]) fun i hi => ?_
  rw [forcedL_len] at hi
  rw [nth_forcedL hi, nth_forcedL hi]
  by_cases e : i = m
  · subst e; rw [if_pos (by omega), if_neg (by omega)]; exact forcedAt_same h h0
  · by_cases hlt : i < m
    · rw [if_pos (by omega), if_pos hlt]
    · rw [if_neg (by omega), if_neg hlt]
theorem forcedL_set {p : Prob} {n m : Nat} (hm : m < p.opts.length) (h : nth (nth (agr p) n) m ≠ forcedAt p n m) : forcedL p n (m + 1) = (forcedL p n m).set m (-1) := by
  refine ext_nth (by rw [List.length_set, forcedL_len, forcedL_len]) fun i hi => ?_
  rw [forcedL_len] at hi
  rw [nth_forcedL hi]
  by_cases e : i = m
  · subst e; rw [if_pos (by omega), nth_set_same (by rw [forcedL_len]; exact hm)]; exact forcedAt_other h
  · rw [nth_set_other e, nth_forcedL hi]
    by_cases hlt : i < m
    · rw [if_pos (by omega), if_pos hlt]
    · rw [if_neg (by omega), if_neg hlt]
theorem firstL_0 {p : Prob} (h : firstE p = 0) : firstL p = nth (agr p) 0 := by unfold firstL; rw [if_pos h]
theorem firstE_0 {p : Prob} (h : firstE p = 0) : largeE p = 0 ∧ 0 < (agr p).length ∧ firstL p = nth (agr p) 0 := by
  have hL := firstL_0 h
  have hl : largeE p = 0 := by
    rcases Classical.em (largeE p = 0) with h1 | h1
    · exact h1
    · unfold firstE at h; rw [if_pos h1] at h; exact absurd h h1
  unfold firstE at h
  rw [if_neg (by simp [hl])] at h
  have hn : (agr p).length ≠ 0 := fun h1 => by rw [if_pos h1] at h; cases h
  exact ⟨hl, by omega, hL⟩
end Go.Proofs.Ytmpkbolabdmkkaa
