/- THE LEAST HITTING SET is the least set that is not kept, in plain Lean. -/
import Derived.Test.YtmpkbolabdmkkaaZRoF
import Derived.Test.YtmpkbolabdmkkaaZClh
namespace Go.Proofs.Ytmpkbolabdmkkaa

theorem lessTo_iff {a b : List Int} : ∀ {n i : Nat}, lessTo a b n i = true ↔ ∃ j, i ≤ j ∧ j < i + n ∧ nth a j < nth b j ∧ ∀ k, i ≤ k → k < j → nth a k = nth b k
  | 0, i => by
    constructor
    · intro h; cases h
    · rintro ⟨j, h1, h2, _⟩; omega
  | n + 1, i => by
    by_cases e : nth a i = nth b i
    · rw [lessTo_no e, lessTo_iff]
      constructor
      · rintro ⟨j, h1, h2, h3, h4⟩
        refine ⟨j, by omega, by omega, h3, fun k hk1 hk2 => ?_⟩
        rcases Nat.lt_or_ge i k with h | h
        · exact h4 k h hk2
        · obtain rfl : k = i := by omega
          exact e
      · rintro ⟨j, h1, h2, h3, h4⟩
        have hj : j ≠ i := fun h => by subst h; omega
        exact ⟨j, by omega, by omega, h3, fun k hk1 hk2 => h4 k (by omega) hk2⟩
    · rw [lessTo_yes e, decide_eq_true_iff]
      constructor
      · intro h; exact ⟨i, Nat.le_refl _, by omega, h, fun k h1 h2 => by omega⟩
      · rintro ⟨j, h1, h2, h3, h4⟩
        rcases Nat.lt_or_ge i j with h | h
        · exact absurd (h4 i (Nat.le_refl _) h) e
        · obtain rfl : j = i := by omega
          exact h3
theorem lessB_iff {a b : List Int} : lessB a b = true ↔ ∃ j, j < a.length ∧ nth a j < nth b j ∧ ∀ k, k < j → nth a k = nth b k := by
  unfold lessB
  rw [lessTo_iff]
  constructor
  · rintro ⟨j, _, h2, h3, h4⟩; exact ⟨j, by omega, h3, fun k hk => h4 k (Nat.zero_le _) hk⟩
  · rintro ⟨j, h2, h3, h4⟩; exact ⟨j, Nat.zero_le _, by omega, h3, fun k _ hk => h4 k hk⟩
theorem lessB_trans {a b c : List Int} (hl : a.length = b.length) (h1 : lessB a b = true) (h2 : lessB b c = true) : lessB a c = true := by
  obtain ⟨i, i1, i2, i3⟩ := lessB_iff.1 h1
  obtain ⟨j, j1, j2, j3⟩ := lessB_iff.1 h2
  rcases Nat.lt_trichotomy i j with h | h | h
  · exact lessB_iff.2 ⟨i, i1, by rw [← j3 i h]; exact i2, fun k hk => (i3 k hk).trans (j3 k (by omega))⟩
  · subst h
    exact lessB_iff.2 ⟨i, i1, by omega, fun k hk => (i3 k hk).trans (j3 k hk)⟩
  · exact lessB_iff.2 ⟨j, by omega, by rw [i3 j h]; exact j2, fun k hk => (i3 k (by omega)).trans (j3 k hk)⟩
theorem lessB_tri {a b : List Int} (hl : a.length = b.length) (h1 : lessB a b = false) (h2 : lessB b a = false) : a = b := by
  have key : ∀ n, n ≤ a.length → ∀ k, k < n → nth a k = nth b k := by
    intro n
    induction n with
    | zero => intro _ k hk; omega
    | succ n ih =>
      intro hn k hk
      have ih' := ih (by omega)
      rcases Nat.lt_succ_iff_lt_or_eq.1 hk with h | rfl
      · exact ih' k h
      · rcases Int.lt_trichotomy (nth a k) (nth b k) with h | h | h
        · have := lessB_iff.2 ⟨k, by omega, h, ih'⟩
          rw [h1] at this; cases this
        · exact h
        · have := lessB_iff.2 ⟨k, by omega, h, fun q hq => (ih' q hq).symm⟩
          rw [h2] at this; cases this
  exact ext_nth hl (key a.length (Nat.le_refl _))
theorem smallB_iff {a b : List Int} : smallB a b = true ↔ a.length < b.length ∨ (a.length = b.length ∧ lessB a b = true) := by
  unfold smallB
  rw [Bool.or_eq_true, Bool.and_eq_true, decide_eq_true_iff, decide_eq_true_iff]
theorem smallB_trans {a b c : List Int} (h1 : smallB a b = true) (h2 : smallB b c = true) : smallB a c = true := by
  rw [smallB_iff] at h1 h2 ⊢
  rcases h1 with h1 | ⟨h1, h1'⟩ <;> rcases h2 with h2 | ⟨h2, h2'⟩
  · left; omega
  · left; omega
  · left; omega
  · right; exact ⟨by omega, lessB_trans h1 h1' h2'⟩
theorem smallB_tri {a b : List Int} (h1 : smallB a b = false) (h2 : smallB b a = false) : a = b := by
  have n1 : ¬ (a.length < b.length ∨ (a.length = b.length ∧ lessB a b = true)) := fun h => by rw [smallB_iff.2 h] at h1; cases h1
  have n2 : ¬ (b.length < a.length ∨ (b.length = a.length ∧ lessB b a = true)) := fun h => by rw [smallB_iff.2 h] at h2; cases h2
  have hl : a.length = b.length := by
    rcases Nat.lt_trichotomy a.length b.length with h | h | h
    · exact absurd (.inl h) n1
    · exact h
    · exact absurd (.inl h) n2
  refine lessB_tri hl ?_ ?_
  · cases h : lessB a b
    · rfl
    · exact absurd (.inr ⟨hl, h⟩) n1
  · cases h : lessB b a
    · rfl
    · exact absurd (.inr ⟨hl.symm, h⟩) n2
/-- the best set that is not kept: none of the others stands before it -/
theorem best_min (its : List Int) (K : Nat → Bool) (h0 : K (2 ^ its.length - 1) = false) : ∀ m, K (bestTo its K m) = false ∧ ∀ s, s < m → K s = false → smallB (listed its s) (listed its (bestTo its K m)) = false
  | 0 => ⟨h0, fun s h => absurd h (Nat.not_lt_zero _)⟩
  | m + 1 => by
    obtain ⟨ih1, ih2⟩ := best_min its K h0 m
    have hc : (cnt its.length m < cnt its.length (bestTo its K m) ∨ (cnt its.length m = cnt its.length (bestTo its K m) ∧ lessB (listed its m) (listed its (bestTo its K m)) = true)) ↔ smallB (listed its m) (listed its (bestTo its K m)) = true := by
      rw [smallB_iff, listed_len, listed_len]
    unfold bestTo
    split
    · rename_i h
      have hs := hc.1 h.2
      refine ⟨h.1, fun s hs' hK => ?_⟩
      rcases Nat.lt_succ_iff_lt_or_eq.1 hs' with h1 | rfl
      · have h3 := ih2 s h1 hK
        cases h4 : smallB (listed its s) (listed its m)
        · rfl
        · rw [smallB_trans h4 hs] at h3; cases h3
      · cases h4 : smallB (listed its s) (listed its s)
        · rfl
        · rcases smallB_iff.1 h4 with h5 | ⟨_, h5⟩
          · omega
          · obtain ⟨j, _, h6, _⟩ := lessB_iff.1 h5; omega
    · rename_i h
      refine ⟨ih1, fun s hs' hK => ?_⟩
      rcases Nat.lt_succ_iff_lt_or_eq.1 hs' with h1 | rfl
      · exact ih2 s h1 hK
      · cases h4 : smallB (listed its s) (listed its (bestTo its K s))
        · rfl
        · exact absurd ⟨hK, hc.2 h4⟩ h
theorem hit_min (its : List Int) (L : List Nat) : ∀ m, ((hitBest its L m).2 = false ∧ (hitBest its L m).1 = [] ∧ ∀ s, s < m → hitsAll L s = false) ∨
    ((hitBest its L m).2 = true ∧ ∃ b, b < m ∧ hitsAll L b = true ∧ (hitBest its L m).1 = listed its b ∧ ∀ s, s < m → hitsAll L s = true → smallB (listed its s) (listed its b) = false)
  | 0 => .inl ⟨rfl, rfl, fun s h => absurd h (Nat.not_lt_zero _)⟩
  | m + 1 => by
    have ih := hit_min its L m
    have irr : smallB (listed its m) (listed its m) = false := by
      cases h4 : smallB (listed its m) (listed its m)
      · rfl
      · rcases smallB_iff.1 h4 with h5 | ⟨_, h5⟩
        · omega
        · obtain ⟨j, _, h6, _⟩ := lessB_iff.1 h5; omega
    unfold hitBest
    split
    · rename_i h
      right
      refine ⟨rfl, m, by omega, h.1, rfl, fun s hs hh => ?_⟩
      rcases Nat.lt_succ_iff_lt_or_eq.1 hs with h1 | rfl
      · rcases ih with ⟨_, _, h2⟩ | ⟨h2, b, hb, _, h3, h4⟩
        · rw [h2 s h1] at hh; cases hh
        · rcases h.2 with h5 | h5
          · rw [h2] at h5; cases h5
          · rw [h3] at h5
            cases h6 : smallB (listed its s) (listed its m)
            · rfl
            · have := h4 s h1 hh
              rw [smallB_trans h6 h5] at this; cases this
      · exact irr
    · rename_i h
      rcases ih with ⟨h1, h2, h3⟩ | ⟨h1, b, hb, h2, h3, h4⟩
      · refine .inl ⟨h1, h2, fun s hs => ?_⟩
        rcases Nat.lt_succ_iff_lt_or_eq.1 hs with h5 | rfl
        · exact h3 s h5
        · cases h6 : hitsAll L s
          · rfl
          · exact absurd ⟨h6, .inl h1⟩ h
      · refine .inr ⟨h1, b, by omega, h2, h3, fun s hs hh => ?_⟩
        rcases Nat.lt_succ_iff_lt_or_eq.1 hs with h5 | rfl
        · exact h4 s h5 hh
        · cases h6 : smallB (listed its s) (listed its b)
          · rfl
          · exact absurd ⟨hh, .inr (by rw [h3]; exact h6)⟩ h
/-- the same set -/
theorem hit_best {its : List Int} {L : List Nat} {K : Nat → Bool} (hK : ∀ s, s < 2 ^ its.length → K s = !hitsAll L s) (h0 : K (2 ^ its.length - 1) = false) :
    hitBest its L (2 ^ its.length) = (listed its (bestTo its K (2 ^ its.length)), true) := by
  have hp := Nat.two_pow_pos its.length
  obtain ⟨h1, h2⟩ := best_min its K h0 (2 ^ its.length)
  have hlt := bestTo_lt its K (2 ^ its.length) (Nat.le_refl _)
  have hit1 : hitsAll L (bestTo its K (2 ^ its.length)) = true := by have := hK _ hlt; rw [h1] at this; simpa using this.symm
  rcases hit_min its L (2 ^ its.length) with ⟨_, _, h3⟩ | ⟨h3, b, hb, h4, h5, h6⟩
  · rw [h3 _ hlt] at hit1; cases hit1
  · have hKb : K b = false := by rw [hK b hb, h4]; rfl
    have e : listed its b = listed its (bestTo its K (2 ^ its.length)) := smallB_tri (h2 b hb hKb) (h6 _ hlt hit1)
    rw [← e]
    exact Prod.ext h5 h3
end Go.Proofs.Ytmpkbolabdmkkaa
