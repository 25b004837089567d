/- THE REFERENCE's WAY to the least set, in plain Lean: it is that of places. -/
import Derived.Test.YtmpkbolabdmkkaaZVmb
namespace Go.Proofs.Ytmpkbolabdmkkaa

/-- what the first k fillings violate, each set once -/
def rsnTo (p : Prob) (of : List Int → Bool) : Nat → List Nat
  | 0 => []
  | k + 1 => if useB p of (fill p k) = true ∧ vm p (fill p k) ∉ rsnTo p of k then rsnTo p of k ++ [vm p (fill p k)] else rsnTo p of k
theorem rsn_mem (p : Prob) (of : List Int → Bool) {x : Nat} : ∀ k, x ∈ rsnTo p of k ↔ ∃ r, r < k ∧ useB p of (fill p r) = true ∧ vm p (fill p r) = x
  | 0 => by simp [rsnTo]
  | k + 1 => by
    have ih := rsn_mem p of (x := x) k
    unfold rsnTo
    split
    · rename_i h
      rw [List.mem_append, List.mem_singleton, ih]
      constructor
      · rintro (⟨r, h1, h2⟩ | h1)
        · exact ⟨r, by omega, h2⟩
        · exact ⟨k, by omega, h.1, h1.symm⟩
      · rintro ⟨r, h1, h2, h3⟩
        rcases Nat.lt_succ_iff_lt_or_eq.1 h1 with h4 | rfl
        · exact .inl ⟨r, h4, h2, h3⟩
        · exact .inr h3.symm
    · rename_i h
      rw [ih]
      constructor
      · rintro ⟨r, h1, h2⟩; exact ⟨r, by omega, h2⟩
      · rintro ⟨r, h1, h2, h3⟩
        rcases Nat.lt_succ_iff_lt_or_eq.1 h1 with h4 | rfl
        · exact ⟨r, h4, h2, h3⟩
        · by_cases hm : vm p (fill p r) ∈ rsnTo p of r
          · rw [h3] at hm; exact ih.1 hm
          · exact absurd ⟨h2, hm⟩ h
def rsnL (p : Prob) (of : List Int → Bool) : List Nat := rsnTo p of (total p)
theorem hitsAll_iff {L : List Nat} {s : Nat} : hitsAll L s = true ↔ ∀ x ∈ L, x &&& s ≠ 0 := by
  unfold hitsAll
  rw [decide_eq_true_iff]
  constructor
  · intro h x hx
    obtain ⟨i, hi, rfl⟩ := List.getElem_of_mem hx
    rw [← nth_eq L i hi]; exact h i hi
  · intro h j hj
    exact h _ (nth_mem hj)
theorem kept_hits {p : Prob} (hv : validP p = true) (of : List Int → Bool) {s : Nat} (hs : s < 2 ^ (items p).length) : keptK p of s = !hitsAll (rsnL p of) s := by
  have h1 : keptK p of s = true ↔ ∃ r, r < total p ∧ useB p of (fill p r) = true ∧ vm p (fill p r) &&& s = 0 := by
    have hn := (validP_iff.1 hv).2.2.2
    unfold keptK
    rw [kUp_iff _ hn _ (Nat.le_refl _) s hs]
    have hbit : ∀ f j, j < (items p).length → (2 ^ (items p).length - 1 - vm p f).testBit j = !(vm p f).testBit j := fun f j hj => by
      have := Nat.testBit_two_pow_sub_succ (vm_lt p f) j
      rw [show 2 ^ (items p).length - 1 - vm p f = 2 ^ (items p).length - (vm p f + 1) by omega, this, decide_eq_true hj, Bool.true_and]
    have hbig : ∀ j, (items p).length ≤ j → s.testBit j = false := fun j hj => Nat.testBit_lt_two_pow (Nat.lt_of_lt_of_le hs (Nat.pow_le_pow_right (by decide) hj))
    have hk0 : ∀ t, k0To p of (total p) t = true ↔ ∃ r, r < total p ∧ useB p of (fill p r) = true ∧ t = 2 ^ (items p).length - 1 - vm p (fill p r) := fun t => by
      unfold k0To
      rw [show (fills p).take (total p) = fills p by rw [← fills_len p, List.take_length], List.any_eq_true]
      constructor
      · rintro ⟨f, h1, h2⟩
        rw [Bool.and_eq_true, beq_iff_eq] at h2
        obtain ⟨r, hr, rfl⟩ := mem_fills.1 h1
        exact ⟨r, hr, h2⟩
      · rintro ⟨r, hr, h2⟩
        exact ⟨fill p r, mem_fills.2 ⟨r, hr, rfl⟩, by rw [Bool.and_eq_true, beq_iff_eq]; exact h2⟩
    constructor
    · rintro ⟨t, _, h2, _, h4⟩
      obtain ⟨r, hr, hu, rfl⟩ := (hk0 t).1 h2
      refine ⟨r, hr, hu, Nat.eq_of_testBit_eq fun j => ?_⟩
      rw [Nat.testBit_and, Nat.zero_testBit]
      rcases Nat.lt_or_ge j (items p).length with hj | hj
      · cases hb : s.testBit j
        · rw [Bool.and_false]
        · have := h4 j hj hb
          rw [hbit _ j hj] at this
          rw [Bool.and_true]; simpa using this
      · rw [hbig j hj, Bool.and_false]
    · rintro ⟨r, hr, hu, h0⟩
      have hlt : 2 ^ (items p).length - 1 - vm p (fill p r) < 2 ^ (items p).length := by have := Nat.two_pow_pos (items p).length; omega
      refine ⟨_, hlt, (hk0 _).2 ⟨r, hr, hu, rfl⟩, fun j hj => ?_, fun j hj hb => ?_⟩
      · rw [Nat.testBit_lt_two_pow (Nat.lt_of_lt_of_le hlt (Nat.pow_le_pow_right (by decide) hj)), hbig j hj]
      · have := congrArg (fun x => x.testBit j) h0
        simp only [Nat.testBit_and, Nat.zero_testBit, hb, Bool.and_true] at this
        rw [hbit _ j hj, this]; rfl
  have h2 : hitsAll (rsnL p of) s = true ↔ ¬ keptK p of s = true := by
    rw [hitsAll_iff, h1]
    constructor
    · rintro h ⟨r, hr, hu, h0⟩
      exact h _ ((rsn_mem p of _).2 ⟨r, hr, hu, rfl⟩) h0
    · intro h x hx h0
      obtain ⟨r, hr, hu, rfl⟩ := (rsn_mem p of _).1 hx
      exact h ⟨r, hr, hu, h0⟩
  cases hk : keptK p of s
  · rw [h2.2 (by simp [hk])]; rfl
  · cases hh : hitsAll (rsnL p of) s
    · rfl
    · exact absurd hk (h2.1 hh)
/-- the reference's answer -/
theorem rsn_least {p : Prob} (hv : validP p = true) (of : List Int → Bool) :
    hitBest (items p) (rsnL p of) (2 ^ (items p).length) = ((leastO p of).getD [], (leastO p of).isSome) := by
  have hp := Nat.two_pow_pos (items p).length
  have hK : ∀ s, s < 2 ^ (items p).length → keptK p of s = !hitsAll (rsnL p of) s := fun s hs => kept_hits hv of hs
  cases h0 : keptK p of (2 ^ (items p).length - 1)
  · rw [hit_best hK h0]
    unfold leastO
    rw [if_neg (by simp [h0])]; rfl
  · have hno : hitsAll (rsnL p of) (2 ^ (items p).length - 1) = false := by have := hK _ (show 2 ^ (items p).length - 1 < 2 ^ (items p).length by omega); rw [h0] at this; simpa using this.symm
    have hnone : ∀ s, s < 2 ^ (items p).length → hitsAll (rsnL p of) s = false := fun s hs => by
      cases hh : hitsAll (rsnL p of) s
      · rfl
      · have : hitsAll (rsnL p of) (2 ^ (items p).length - 1) = true := hitsAll_iff.2 fun x hx h => by
          refine hitsAll_iff.1 hh x hx ?_
          apply Nat.eq_of_testBit_eq
          intro j
          have hj := congrArg (fun y => y.testBit j) h
          simp only [Nat.testBit_and, Nat.zero_testBit, Nat.testBit_two_pow_sub_one] at hj ⊢
          rcases Nat.lt_or_ge j (items p).length with h1 | h1
          · rw [decide_eq_true h1, Bool.and_true] at hj
            rw [hj]; rfl
          · rw [Nat.testBit_lt_two_pow (Nat.lt_of_lt_of_le hs (Nat.pow_le_pow_right (by decide) h1)), Bool.and_false]
        rw [hno] at this; cases this
    unfold leastO
    rw [if_pos h0]
    rcases hit_min (items p) (rsnL p of) (2 ^ (items p).length) with ⟨h1, h2, _⟩ | ⟨_, b, hb, h4, _⟩
    · exact Prod.ext h2 h1
    · rw [hnone b hb] at h4; cases h4
end Go.Proofs.Ytmpkbolabdmkkaa
