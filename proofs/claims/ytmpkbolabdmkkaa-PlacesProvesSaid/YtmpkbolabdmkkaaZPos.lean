/- WHAT IS POSSIBLE, told without tables; what is forced. -/
import Derived.Test.YtmpkbolabdmkkaaZa
import Derived.Test.YtmpkbolabdmkkaaZd
namespace Go.Proofs.Ytmpkbolabdmkkaa

theorem nth_set_at {l : List Bool} {i j : Nat} {b : Bool} (hi : i < l.length) : nth (l.set i b) j = if i = j then b else nth l j := by
  by_cases h : i = j
  · subst h; rw [if_pos rfl]; exact nth_set_same hi b
  · rw [if_neg h]; exact nth_set_other (Ne.symm h) b
theorem mark_at (t : List (List Bool)) (f : List Int) {i o : Nat} (hi : i < t.length) (ho : o < (nth t i).length) : ∀ m, (∀ j, j < m → (nth f j).toNat < (nth t j).length) → m ≤ t.length →
    (nth (nth (markTo t f m) i) o = true ↔ nth (nth t i) o = true ∨ (i < m ∧ (nth f i).toNat = o))
  | 0, _, _ => by simp [markTo]
  | m + 1, hb, hm => by
    have ih := mark_at t f hi ho m (fun j hj => hb j (by omega)) (by omega)
    have hsh := markTo_shape t f m
    show nth (nth (setTab (markTo t f m) m (nth f m).toNat true) i) o = true ↔ _
    by_cases him : i = m
    · subst him
      rw [nth_setTab_same (by rw [hsh.1]; exact hi), nth_set_at (by rw [hsh.2]; exact hb i (by omega))]
      by_cases h : (nth f i).toNat = o
      · simp [h]
      · rw [if_neg h, ih]; simp [h]
    · rw [nth_setTab_other him, ih]
      constructor
      · rintro (h | ⟨h1, h2⟩)
        · exact .inl h
        · exact .inr ⟨by omega, h2⟩
      · rintro (h | ⟨h1, h2⟩)
        · exact .inl h
        · exact .inr ⟨by omega, h2⟩
theorem marks_at (t : List (List Bool)) (l : List (List Int)) {i o : Nat} (hi : i < t.length) (ho : o < (nth t i).length) : ∀ k, (∀ m, m < k → ∀ j, j < t.length → (nth (nth l m) j).toNat < (nth t j).length) →
    (nth (nth (marksTo t l t.length k) i) o = true ↔ nth (nth t i) o = true ∨ ∃ m, m < k ∧ (nth (nth l m) i).toNat = o)
  | 0, _ => by simp [marksTo]
  | k + 1, hb => by
    have ih := marks_at t l hi ho k (fun m hm => hb m (by omega))
    have hsh := marksTo_shape t l t.length k
    show nth (nth (markTo (marksTo t l t.length k) (nth l k) t.length) i) o = true ↔ _
    rw [mark_at _ _ (by rw [hsh.1]; exact hi) (by rw [hsh.2]; exact ho) _ (fun j hj => by rw [hsh.2]; exact hb k (by omega) j hj) (by rw [hsh.1]; exact Nat.le_refl _), ih]
    constructor
    · rintro ((h | ⟨m, h1, h2⟩) | ⟨_, h⟩)
      · exact .inl h
      · exact .inr ⟨m, by omega, h2⟩
      · exact .inr ⟨k, by omega, h⟩
    · rintro (h | ⟨m, h1, h2⟩)
      · exact .inl (.inl h)
      · by_cases hmk : m = k
        · subst hmk; exact .inr ⟨hi, h2⟩
        · exact .inl (.inr ⟨m, by omega, h2⟩)

theorem possT_length (p : Prob) : (possT p).length = p.opts.length := possT_len p _
theorem possT_rowlen (p : Prob) {i : Nat} (hi : i < p.opts.length) : (nth (possT p) i).length = (nth p.opts i).length := possT_row p (agr p).length 0 [] hi

theorem poss_iff {p : Prob} (hv : validP p = true) {i o : Nat} (hi : i < p.opts.length) (ho : o < (nth p.opts i).length) : nth (nth (possT p) i) o = true ↔ ∃ f ∈ agr p, nth f i = (o : Int) := by
  have hfl : (fullTab p false).length = p.opts.length := fullTo_len p false (Nat.le_refl _)
  have hfr : ∀ j, j < p.opts.length → nth (fullTab p false) j = List.replicate (nth p.opts j).length false := fun j hj => nth_fullTo p false (Nat.le_refl _) hj
  have h := marks_at (fullTab p false) (agr p) (i := i) (o := o) (by rw [hfl]; exact hi) (by rw [hfr i hi]; simpa using ho) (agr p).length (fun m hm j hj => by
    rw [hfl] at hj
    rw [hfr j hj, List.length_replicate]
    obtain ⟨_, h2, h3, _⟩ := agr_mem hv (nth_mem hm)
    have := h3 j (by rw [h2]; exact hj)
    omega)
  rw [hfl] at h
  show nth (nth (marksTo (fullTab p false) (agr p) p.opts.length (agr p).length) i) o = true ↔ _
  rw [h, hfr i hi]
  constructor
  · rintro (h1 | ⟨m, hm, h1⟩)
    · rw [nth_eq _ _ (by simpa using ho)] at h1; simp at h1
    · refine ⟨_, nth_mem hm, ?_⟩
      obtain ⟨_, h2, h3, _⟩ := agr_mem hv (nth_mem hm)
      have := h3 i (by rw [h2]; exact hi)
      omega
  · rintro ⟨f, hf, h1⟩
    obtain ⟨m, hm, rfl⟩ := List.getElem_of_mem hf
    refine .inr ⟨m, hm, ?_⟩
    rw [nth_eq _ _ hm, h1]; simp

/-- a row's only true place; -1: there is more than one -/
def onlyB (l : List Bool) (k : Int) : Int := if (l.drop (k + 1).toNat).contains true then -1 else k
end Go.Proofs.Ytmpkbolabdmkkaa
