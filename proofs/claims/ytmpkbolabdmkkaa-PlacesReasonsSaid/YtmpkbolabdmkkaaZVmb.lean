/- WHAT A FILLING VIOLATES, as bits: the reference's way and places', in plain Lean. -/
import Derived.Test.YtmpkbolabdmkkaaZHit
namespace Go.Proofs.Ytmpkbolabdmkkaa

theorem viol_mem (p : Prob) (f : List Int) {x : Int} : ∀ k, x ∈ violTo p f k ↔ ∃ m, m < k ∧ keepsB (nth p.rules m) f = false ∧ (nth p.rules m).item = x
  | 0 => by simp [violTo]
  | k + 1 => by
    have ih := viol_mem p f (x := x) k
    unfold violTo
    cases hk : keepsB (nth p.rules k) f
    · by_cases hl : (violTo p f k).getLast? = some (nth p.rules k).item
      · rw [if_pos (.inr hl), ih]
        constructor
        · rintro ⟨m, h1, h2⟩; exact ⟨m, by omega, h2⟩
        · rintro ⟨m, h1, h2, h3⟩
          rcases Nat.lt_succ_iff_lt_or_eq.1 h1 with h4 | rfl
          · exact ⟨m, h4, h2, h3⟩
          · have hm : (nth p.rules m).item ∈ violTo p f m := List.mem_of_getLast? hl
            rw [h3] at hm
            exact ih.1 hm
      · rw [if_neg (by rintro (h | h); cases h; exact hl h), List.mem_append, List.mem_singleton, ih]
        constructor
        · rintro (⟨m, h1, h2⟩ | h)
          · exact ⟨m, by omega, h2⟩
          · exact ⟨k, by omega, hk, h.symm⟩
        · rintro ⟨m, h1, h2, h3⟩
          rcases Nat.lt_succ_iff_lt_or_eq.1 h1 with h4 | rfl
          · exact .inl ⟨m, h4, h2, h3⟩
          · exact .inr h3.symm
    · rw [if_pos (.inl rfl), ih]
      constructor
      · rintro ⟨m, h1, h2⟩; exact ⟨m, by omega, h2⟩
      · rintro ⟨m, h1, h2, h3⟩
        rcases Nat.lt_succ_iff_lt_or_eq.1 h1 with h4 | rfl
        · exact ⟨m, h4, h2, h3⟩
        · rw [hk] at h2; cases h2
theorem bitsTo_bit (its l : List Int) : ∀ k j, (bitsTo its l k).testBit j = (decide (j < k) && hasI l (nth its j))
  | 0, j => by simp [bitsTo]
  | k + 1, j => by
    have ih := bitsTo_bit its l k
    have hlt := bitsTo_lt its l k
    unfold bitsTo
    by_cases hj : j = k
    · subst hj
      have h0 : (bitsTo its l j).testBit j = false := Nat.testBit_lt_two_pow hlt
      split
      · rename_i h
        rw [Nat.add_comm, Nat.testBit_two_pow_add_eq, h0, h]; simp
      · rename_i h
        rw [h0]; simp [h]
    · have e : decide (j < k + 1) = decide (j < k) := by simp; omega
      rw [e]
      split
      · rename_i h
        rcases Nat.lt_or_ge j k with h1 | h1
        · rw [Nat.add_comm, Nat.testBit_two_pow_add_gt h1, ih j]
        · rw [Nat.testBit_lt_two_pow (Nat.lt_of_lt_of_le (show bitsTo its l k + 2 ^ k < 2 ^ (k + 1) by rw [Nat.pow_succ]; omega) (Nat.pow_le_pow_right (by decide) (by omega)))]
          rw [decide_eq_false (by omega)]; rfl
      · exact ih j
theorem bits_vm {p : Prob} (hv : validP p = true) (f : List Int) : bitsTo (items p) (violL p f) (items p).length = vm p f := by
  apply Nat.eq_of_testBit_eq
  intro j
  rw [bitsTo_bit]
  rcases Nat.lt_or_ge j (items p).length with hj | hj
  · rw [decide_eq_true hj, Bool.true_and, Bool.eq_iff_iff, hasI_iff]
    unfold violL vm
    rw [viol_mem, vmTo_bit]
    constructor
    · rintro ⟨m, h1, h2, h3⟩
      refine ⟨m, h1, h2, ?_⟩
      have hlt := idx_lt p h1
      have hat : nth (items p) ((items p).idxOf (nth p.rules m).item) = (nth p.rules m).item := by rw [nth_eq _ _ hlt]; exact List.getElem_idxOf hlt
      rcases Nat.lt_trichotomy ((items p).idxOf (nth p.rules m).item) j with h | h | h
      · have := items_lt hv h hj; rw [hat, h3] at this; omega
      · exact h
      · have := items_lt hv h hlt; rw [hat, h3] at this; omega
    · rintro ⟨m, h1, h2, h3⟩
      refine ⟨m, h1, h2, ?_⟩
      have hlt := idx_lt p h1
      rw [← h3, nth_eq _ _ hlt]; exact (List.getElem_idxOf hlt).symm
  · rw [decide_eq_false (by omega), Bool.false_and, Nat.testBit_lt_two_pow (Nat.lt_of_lt_of_le (vm_lt p f) (Nat.pow_le_pow_right (by decide) hj))]
end Go.Proofs.Ytmpkbolabdmkkaa
