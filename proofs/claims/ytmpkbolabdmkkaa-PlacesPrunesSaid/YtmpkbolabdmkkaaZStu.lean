/- STRIKING as the reference tells it: it is the same, in plain Lean. -/
import Derived.Test.YtmpkbolabdmkkaaZStr
namespace Go.Proofs.Ytmpkbolabdmkkaa

/-- what a row of options leaves: one that misses, one that hits -/
def missF (l h : List Bool) : Nat → Bool
  | 0 => false
  | j + 1 => missF l h j || (nth l j && !nth h j)
def hitF (l h : List Bool) : Nat → Bool
  | 0 => false
  | j + 1 => hitF l h j || (nth l j && nth h j)
theorem missU_far {r : Rl} {t : List (List Bool)} {pane o k : Nat} (h : nth r.panes k ≠ (pane : Int)) : ∀ n, missU r t pane o k n = missF (rowAt r t k) (nth r.hits k) n
  | 0 => rfl
  | n + 1 => by unfold missU missF isAt; rw [missU_far h n, if_neg h]
theorem hitU_far {r : Rl} {t : List (List Bool)} {pane o k : Nat} (h : nth r.panes k ≠ (pane : Int)) : ∀ n, hitU r t pane o k n = hitF (rowAt r t k) (nth r.hits k) n
  | 0 => rfl
  | n + 1 => by unfold hitU hitF isAt; rw [hitU_far h n, if_neg h]
theorem U_near {r : Rl} {t : List (List Bool)} {pane o k : Nat} (h : nth r.panes k = (pane : Int)) : ∀ n,
    hitU r t pane o k n = (decide (o < n) && nth (nth r.hits k) o) ∧ missU r t pane o k n = (decide (o < n) && !nth (nth r.hits k) o)
  | 0 => by simp [hitU, missU]
  | n + 1 => by
    obtain ⟨h1, h2⟩ := U_near h n
    unfold hitU missU isAt
    rw [h1, h2, if_pos h]
    by_cases e : n = o
    · subst e
      simp
    · have e1 : ¬ ((n : Int) = (o : Int)) := by omega
      rw [decide_eq_false e1]
      by_cases e2 : o < n
      · rw [decide_eq_true e2, decide_eq_true (show o < n + 1 by omega)]; simp
      · rw [decide_eq_false e2, decide_eq_false (show ¬ o < n + 1 by omega)]; simp
theorem near_at {r : Rl} {t : List (List Bool)} {pane o k : Nat} (h : nth r.panes k = (pane : Int)) (ho : o < (rowAt r t k).length) :
    hitU r t pane o k (rowAt r t k).length = nth (nth r.hits k) o ∧ missU r t pane o k (rowAt r t k).length = !nth (nth r.hits k) o := by
  obtain ⟨h1, h2⟩ := U_near (t := t) (o := o) h (rowAt r t k).length
  rw [h1, h2, decide_eq_true ho]; simp

def thereU (r : Rl) (pane : Nat) : Nat → Bool
  | 0 => false
  | k + 1 => thereU r pane k || (nth r.panes k == (pane : Int))
def emptyU (r : Rl) (t : List (List Bool)) (pane o : Nat) : Nat → Bool
  | 0 => false
  | k + 1 => emptyU r t pane o k || (!missU r t pane o k (rowAt r t k).length && !hitU r t pane o k (rowAt r t k).length)
theorem thereU_iff (r : Rl) (pane : Nat) : ∀ n, thereU r pane n = true ↔ ∃ k, k < n ∧ nth r.panes k = (pane : Int)
  | 0 => by simp [thereU]
  | n + 1 => by
    unfold thereU
    rw [Bool.or_eq_true, thereU_iff r pane n, beq_iff_eq]
    constructor
    · rintro (⟨k, h1, h2⟩ | h)
      · exact ⟨k, by omega, h2⟩
      · exact ⟨n, by omega, h⟩
    · rintro ⟨k, h1, h2⟩
      rcases Nat.lt_succ_iff_lt_or_eq.1 h1 with h3 | rfl
      · exact .inl ⟨k, h3, h2⟩
      · exact .inr h2
theorem emptyU_iff (r : Rl) (t : List (List Bool)) (pane o : Nat) : ∀ n, emptyU r t pane o n = true ↔ ∃ k, k < n ∧ missU r t pane o k (rowAt r t k).length = false ∧ hitU r t pane o k (rowAt r t k).length = false
  | 0 => by simp [emptyU]
  | n + 1 => by
    unfold emptyU
    rw [Bool.or_eq_true, emptyU_iff r t pane o n, Bool.and_eq_true, Bool.not_eq_true', Bool.not_eq_true']
    constructor
    · rintro (⟨k, h1, h2⟩ | h)
      · exact ⟨k, by omega, h2⟩
      · exact ⟨n, by omega, h⟩
    · rintro ⟨k, h1, h2⟩
      rcases Nat.lt_succ_iff_lt_or_eq.1 h1 with h3 | rfl
      · exact .inl ⟨k, h3, h2⟩
      · exact .inr h2
/-- a row has an option left just if one of them misses or hits -/
theorem hasT_iff {l : List Bool} : hasT l = true ↔ ∃ j, j < l.length ∧ nth l j = true := by
  constructor
  · intro h
    unfold hasT at h
    rw [List.contains_iff_mem] at h
    obtain ⟨i, hi, e⟩ := List.getElem_of_mem h
    exact ⟨i, hi, by rw [nth_eq _ _ hi]; exact e⟩
  · rintro ⟨j, h1, h2⟩
    exact hasT_of h1 h2
theorem F_none (l h : List Bool) : ∀ n, (missF l h n = false ∧ hitF l h n = false) ↔ ∀ j, j < n → nth l j = false
  | 0 => by simp [missF, hitF]
  | n + 1 => by
    unfold missF hitF
    rw [Bool.or_eq_false_iff, Bool.or_eq_false_iff]
    constructor
    · rintro ⟨⟨h1, h2⟩, h3, h4⟩ j hj
      rcases Nat.lt_succ_iff_lt_or_eq.1 hj with h5 | rfl
      · exact (F_none l h n).1 ⟨h1, h3⟩ j h5
      · cases e : nth l j
        · rfl
        · rw [e] at h2 h4; cases e2 : nth h j <;> rw [e2] at h2 h4 <;> simp at h2 h4
    · intro hh
      obtain ⟨h1, h2⟩ := (F_none l h n).2 fun j hj => hh j (by omega)
      have h3 := hh n (by omega)
      exact ⟨⟨h1, by rw [h3]; rfl⟩, h2, by rw [h3]; rfl⟩
/-- one and the same: what the reference finds of a rule that counts -/
theorem struckB_ref {r : Rl} {t : List (List Bool)} {pane o : Nat} (hk : ¬ r.kind = 2) (ho : ∀ k, k < r.panes.length → nth r.panes k = (pane : Int) → o < (rowAt r t k).length) :
    struckB r t pane o = (thereU r pane r.panes.length && (emptyU r t pane o r.panes.length || cntU r t pane o)) := by
  have hed : emptyU r t pane o r.panes.length = deadB r t pane := by
    rw [Bool.eq_iff_iff, emptyU_iff]
    unfold deadB
    rw [decide_eq_true_iff]
    constructor
    · rintro ⟨k, h1, h2, h3⟩
      by_cases e : nth r.panes k = (pane : Int)
      · obtain ⟨h4, h5⟩ := near_at (t := t) (o := o) e (ho k h1 e)
        rw [h4] at h3; rw [h5, h3] at h2; cases h2
      · rw [missU_far e] at h2; rw [hitU_far e] at h3
        refine ⟨k, h1, e, ?_⟩
        cases hh : hasT (rowAt r t k)
        · rfl
        · obtain ⟨j, hj, hjt⟩ := hasT_iff.1 hh
          have := (F_none _ _ _).1 ⟨h2, h3⟩ j hj
          rw [hjt] at this; cases this
    · rintro ⟨k, h1, e, h2⟩
      have := (F_none (rowAt r t k) (nth r.hits k) (rowAt r t k).length).2 fun j hj => by
        cases hh : nth (rowAt r t k) j
        · rfl
        · rw [hasT_of hj hh] at h2; cases h2
      exact ⟨k, h1, by rw [missU_far e]; exact this.1, by rw [hitU_far e]; exact this.2⟩
  rw [hed]
  rcases idxL_cases r.panes pane with ⟨h, hn⟩ | ⟨a, ha, hia, hpa⟩
  · have : thereU r pane r.panes.length = false := by
      rw [← Bool.not_eq_true, thereU_iff]; rintro ⟨k, h1, h2⟩; exact hn k h1 h2
    rw [struckB_out h, this]; rfl
  · have : thereU r pane r.panes.length = true := (thereU_iff _ _ _).2 ⟨a, ha, hpa⟩
    rw [this]
    cases hd : deadB r t pane
    · rw [struckB_cnt hia hd hk]; simp
    · rw [struckB_dead hia hd]; simp
/-- and of a pair -/
theorem struckB_two {r : Rl} {t : List (List Bool)} {pane o a : Nat} (hl : r.panes.length = 2) (hne : nth r.panes 0 ≠ nth r.panes 1) (hk : r.kind = 2) (ha : a < 2) (h : nth r.panes a = (pane : Int)) : struckB r t pane o = pairU r t a o := by
  have hia : idxL r.panes pane = (a : Int) := by
    rcases idxL_cases r.panes pane with ⟨_, hn⟩ | ⟨b, hb, hib, hpb⟩
    · exact absurd h (hn a (by omega))
    · rcases (by omega : a = 0 ∨ a = 1) with rfl | rfl <;> rcases (by omega : b = 0 ∨ b = 1) with rfl | rfl
      · exact hib
      · exact absurd (h.trans hpb.symm) hne
      · exact absurd (hpb.trans h.symm) hne
      · exact hib
  cases hd : deadB r t pane
  · exact struckB_pair hia hd hk
  · rw [struckB_dead hia hd]
    symm
    unfold deadB at hd
    rw [decide_eq_true_iff] at hd
    obtain ⟨k, h1, h2, h3⟩ := hd
    have hk1 : k = 1 - a := by
      rcases (by omega : a = 0 ∨ a = 1) with rfl | rfl <;> rcases (by omega : k = 0 ∨ k = 1) with rfl | rfl
      · exact absurd h h2
      · rfl
      · rfl
      · exact absurd h h2
    subst hk1
    refine pairU_yes fun j hj hh => ?_
    rw [hasT_of hj hh.1] at h3; cases h3
theorem struckB_none {r : Rl} {t : List (List Bool)} {pane o : Nat} (hn : ∀ k, k < r.panes.length → nth r.panes k ≠ (pane : Int)) : struckB r t pane o = false := by
  rcases idxL_cases r.panes pane with ⟨h, _⟩ | ⟨b, hb, _, hpb⟩
  · exact struckB_out h
  · exact absurd hpb (hn b hb)

/-- one option, the first m rules -/
def anyTo (p : Prob) (t : List (List Bool)) (i o m : Nat) : Bool := decide (∃ q, q < m ∧ struckB (nth p.rules q) t i o = true)
def ruleTo (p : Prob) (t : List (List Bool)) (i o m : Nat) : List (List Bool) := if (nth (nth t i) o && anyTo p t i o m) = true then setTab t i o false else t
theorem ruleTo_0 (p : Prob) (t : List (List Bool)) (i o : Nat) : ruleTo p t i o 0 = t := by unfold ruleTo anyTo; simp
theorem ruleTo_all (p : Prob) (t : List (List Bool)) (i o : Nat) : ruleTo p t i o p.rules.length = strikeT p t i o := rfl
theorem anyTo_succ (p : Prob) (t : List (List Bool)) (i o m : Nat) : anyTo p t i o (m + 1) = (anyTo p t i o m || struckB (nth p.rules m) t i o) := by
  rw [Bool.eq_iff_iff, Bool.or_eq_true]
  unfold anyTo
  rw [decide_eq_true_iff, decide_eq_true_iff]
  constructor
  · rintro ⟨q, h1, h2⟩
    rcases Nat.lt_succ_iff_lt_or_eq.1 h1 with h3 | rfl
    · exact .inl ⟨q, h3, h2⟩
    · exact .inr h2
  · rintro (⟨q, h1, h2⟩ | h)
    · exact ⟨q, by omega, h2⟩
    · exact ⟨m, by omega, h⟩
/-- one rule more: the three ways -/
theorem ruleTo_off {p : Prob} {t : List (List Bool)} {i o m : Nat} (h : nth (nth (ruleTo p t i o m) i) o = false) : ruleTo p t i o (m + 1) = ruleTo p t i o m := by
  unfold ruleTo at h ⊢
  rw [anyTo_succ]
  cases h1 : nth (nth t i) o
  · rfl
  · cases h2 : anyTo p t i o m
    · rw [h1, h2] at h; rw [if_neg (by simp), h1] at h; cases h
    · simp
theorem ruleTo_left {p : Prob} {t : List (List Bool)} {i o m : Nat} (hi : i < t.length) (ho : o < (nth t i).length) (h : nth (nth (ruleTo p t i o m) i) o = true) : ruleTo p t i o m = t ∧ nth (nth t i) o = true ∧ anyTo p t i o m = false := by
  unfold ruleTo at h ⊢
  cases h1 : nth (nth t i) o
  · rw [h1] at h; rw [if_neg (by simp), h1] at h; cases h
  · cases h2 : anyTo p t i o m
    · exact ⟨by rw [if_neg (by simp)], rfl, rfl⟩
    · rw [h1, h2] at h
      rw [if_pos (by rfl), nth_setTab_same hi, nth_set_at ho, if_pos rfl] at h
      cases h
theorem ruleTo_yes {p : Prob} {t : List (List Bool)} {i o m : Nat} (h1 : nth (nth t i) o = true) (h : struckB (nth p.rules m) t i o = true) : ruleTo p t i o (m + 1) = setTab t i o false := by
  unfold ruleTo; rw [anyTo_succ, h, h1]; simp
theorem ruleTo_no {p : Prob} {t : List (List Bool)} {i o m : Nat} (h2 : anyTo p t i o m = false) (h : struckB (nth p.rules m) t i o = false) : ruleTo p t i o (m + 1) = t := by
  unfold ruleTo; rw [anyTo_succ, h, h2]; simp
theorem Shp.ruleTo {p : Prob} {t : List (List Bool)} (h : Shp p t) (i o m : Nat) : Shp p (ruleTo p t i o m) := by
  unfold Go.Proofs.Ytmpkbolabdmkkaa.ruleTo; split
  · exact h.set _
  · exact h
theorem cnt_rule {p : Prob} {t : List (List Bool)} (hs : Shp p t) {i o : Nat} (hi : i < p.opts.length) (ho : o < (nth p.opts i).length) (m : Nat) : cntT (ruleTo p t i o m) ≤ cntT t := by
  unfold ruleTo; split
  · rename_i h
    rw [Bool.and_eq_true] at h
    have := cntT_set (by rw [hs.len]; exact hi) (by rw [hs.row i hi]; exact ho) h.1
    omega
  · exact Nat.le_refl _
end Go.Proofs.Ytmpkbolabdmkkaa
