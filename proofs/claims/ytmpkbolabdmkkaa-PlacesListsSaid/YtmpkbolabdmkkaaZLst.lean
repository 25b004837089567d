/- THE AGREEING FILLINGS IN THEIR ORDER, and what Next tells; the only true place of a row: the plain laws of PlacesLists. -/
import Derived.Test.YtmpkbolabdmkkaaZPmA
import Derived.Test.YtmpkbolabdmkkaaZi
namespace Go.Proofs.Ytmpkbolabdmkkaa

theorem agr_sorted {p : Prob} (hv : validP p = true) : (agr p).Pairwise fun a b => lessB a b = true ∧ lessB b a = false := by
  unfold agr
  refine List.Pairwise.filter _ ?_
  unfold fills
  rw [List.pairwise_map]
  refine List.Pairwise.imp_of_mem (R := fun a b => a < b) (fun {a b} ha hb hab => ?_) List.pairwise_lt_range
  have h1 := List.mem_range.1 ha
  have h2 := List.mem_range.1 hb
  rw [lessB_fill hv h1 h2, lessB_fill hv h2 h1]
  simp; omega
theorem agr_self {p : Prob} (hv : validP p = true) {f : List Int} (hf : f ∈ agr p) : lessB f f = false := by
  unfold agr at hf
  obtain ⟨r, hr, rfl⟩ := mem_fills.1 (List.mem_filter.1 hf).1
  rw [lessB_fill hv hr hr]; simp
theorem agr_lt {p : Prob} (hv : validP p = true) {i j : Nat} (hij : i < j) (hj : j < (agr p).length) : lessB (nth (agr p) i) (nth (agr p) j) = true ∧ lessB (nth (agr p) j) (nth (agr p) i) = false := by
  have h := List.pairwise_iff_getElem.1 (agr_sorted hv) i j (by omega) hj hij
  rwa [nth_eq _ _ (show i < _ by omega), nth_eq _ _ hj]
theorem next_at {p : Prob} (hv : validP p = true) {k : Nat} (hk : k < (agr p).length) : (agr p).find? (lessB (nth (agr p) k)) = if k + 1 < (agr p).length then some (nth (agr p) (k + 1)) else none := by
  have hno : ∀ i, i < k + 1 → lessB (nth (agr p) k) (nth (agr p) i) = false := fun i hi => by
    by_cases h : i = k
    · subst h; exact agr_self hv (nth_mem hk)
    · exact (agr_lt hv (show i < k by omega) hk).2
  by_cases h : k + 1 < (agr p).length
  · rw [if_pos h]; exact find_at h (agr_lt hv (Nat.lt_succ_self _) h).1 hno
  · rw [if_neg h]; exact find_none fun i hi => hno i (by omega)
theorem nextE_at {p : Prob} (h0 : largeE p = 0) {k : Nat} (hk : k < (agr p).length) : nextE p (nth (agr p) k) = if k + 1 < (agr p).length then 0 else 3 := by
  obtain ⟨hv, ht⟩ := largeE_0.1 h0
  obtain ⟨h1, _⟩ := agr_mem hv (nth_mem hk)
  unfold nextE
  rw [wrongC_0 hv h1, if_neg (by simp), if_neg (by omega), next_at hv hk]
  by_cases h : k + 1 < (agr p).length <;> simp [h]
theorem nextL_at {p : Prob} (h0 : largeE p = 0) {k : Nat} (hk : k < (agr p).length) : nextL p (nth (agr p) k) = if k + 1 < (agr p).length then nth (agr p) (k + 1) else [] := by
  obtain ⟨hv, _⟩ := largeE_0.1 h0
  unfold nextL
  rw [nextE_at h0 hk, next_at hv hk]
  by_cases h : k + 1 < (agr p).length <;> simp [h, optL]

/-- what 'single' answers: out and n after the first k places -/
def sglO (l : List Bool) : Nat → Int
  | 0 => -1
  | k + 1 => if nth l k = true then k else sglO l k
def sglN (l : List Bool) : Nat → Int
  | 0 => 0
  | k + 1 => if nth l k = true then sglN l k + 1 else sglN l k
def sgl (l : List Bool) : Int := if sglN l l.length = 1 then sglO l l.length else -1
theorem sglN_bd (l : List Bool) : ∀ k, 0 ≤ sglN l k ∧ sglN l k ≤ k
  | 0 => by simp [sglN]
  | k + 1 => by have := sglN_bd l k; unfold sglN; split <;> omega
theorem sglN_0 (l : List Bool) : ∀ k, (∀ i, i < k → nth l i ≠ true) → sglN l k = 0
  | 0, _ => rfl
  | k + 1, h => by unfold sglN; rw [if_neg (h k (Nat.lt_succ_self _))]; exact sglN_0 l k fun i hi => h i (by omega)
theorem sgl_far (l : List Bool) {a : Nat} (ha : nth l a = true) (hb : ∀ i, i < a → nth l i ≠ true) : ∀ k, a < k →
    (∃ j, a < j ∧ j < k ∧ nth l j = true) ∧ 2 ≤ sglN l k ∨ (∀ j, a < j → j < k → nth l j ≠ true) ∧ sglN l k = 1 ∧ sglO l k = a
  | 0, h => absurd h (Nat.not_lt_zero _)
  | k + 1, h => by
    by_cases hak : a = k
    · subst hak
      refine .inr ⟨fun j h1 h2 => by omega, ?_, ?_⟩
      · unfold sglN; rw [if_pos ha, sglN_0 l a hb]; rfl
      · unfold sglO; rw [if_pos ha]
    · rcases sgl_far l ha hb k (by omega) with ⟨⟨j, h1, h2, h3⟩, h4⟩ | ⟨h1, h2, h3⟩
      · refine .inl ⟨⟨j, h1, by omega, h3⟩, ?_⟩
        unfold sglN; split <;> omega
      · by_cases hk : nth l k = true
        · refine .inl ⟨⟨k, by omega, Nat.lt_succ_self _, hk⟩, ?_⟩
          unfold sglN; rw [if_pos hk]; omega
        · refine .inr ⟨fun j h4 h5 => ?_, ?_, ?_⟩
          · by_cases hjk : j = k
            · subst hjk; exact hk
            · exact h1 j h4 (by omega)
          · unfold sglN; rw [if_neg hk]; exact h2
          · unfold sglO; rw [if_neg hk]; exact h3
theorem sgl_only {l : List Bool} (h : ∃ j, j < l.length ∧ nth l j = true) : sgl l = onlyB l (idxB l true) := by
  obtain ⟨k, h1, h2, h3, h4⟩ := idxB_spec h
  rw [h2]
  unfold sgl onlyB
  rw [show ((k : Int) + 1).toNat = k + 1 by omega]
  rcases sgl_far l h3 h4 l.length h1 with ⟨⟨j, q1, q2, q3⟩, q4⟩ | ⟨q1, q2, q3⟩
  · rw [if_neg (by omega), if_pos (drop_contains.2 ⟨j, by omega, q2, q3⟩)]
  · rw [if_pos q2, q3, if_neg]
    intro hc
    obtain ⟨j, r1, r2, r3⟩ := drop_contains.1 hc
    exact q1 j (by omega) r2 r3
theorem sgl_forced {p : Prob} (hv : validP p = true) (h0 : firstE p = 0) {i : Nat} (hi : i < p.opts.length) : sgl (nth (possT p) i) = nth (forcedR p) i := by
  obtain ⟨_, hpos, _⟩ := firstE_0 h0
  obtain ⟨_, m2, m3, _⟩ := agr_mem hv (nth_mem hpos)
  have ha := m3 i (by rw [m2]; exact hi)
  obtain ⟨a, haa⟩ := Int.eq_ofNat_of_zero_le ha.1
  have hal : a < (nth p.opts i).length := by omega
  have hat : nth (nth (possT p) i) a = true := (poss_iff hv hi hal).2 ⟨_, nth_mem hpos, haa⟩
  rw [sgl_only ⟨a, by rw [possT_rowlen p hi]; exact hal, hat⟩]
  rw [← forcedTo_all hv h0, nth_forcedTo p _ _ hi]
  rfl
end Go.Proofs.Ytmpkbolabdmkkaa
