/- PARTS OF LISTS OF BOOLS, and what the first panes leave of them. -/
import Derived.Test.YtmpkbolabdmkkaaZSur
namespace Go.Proofs.Ytmpkbolabdmkkaa

def subB (l : List Bool) (a d : Nat) : List Bool := (l.drop a).take (d - a)
theorem subB_len {l : List Bool} {a d : Nat} (hd : d ≤ l.length) : (subB l a d).length = d - a := by simp [subB]; omega
theorem nth_subB {l : List Bool} {a d k : Nat} (hd : d ≤ l.length) (hk : k < d - a) : nth (subB l a d) k = nth l (a + k) := by
  rw [nth_eq _ _ (by rw [subB_len hd]; exact hk), nth_eq _ _ (show a + k < l.length by omega)]
  simp [subB]
theorem sub_contains {l : List Bool} {a d : Nat} (hd : d ≤ l.length) (b : Bool) : (subB l a d).contains b = true ↔ ∃ k, a ≤ k ∧ k < d ∧ nth l k = b := by
  rw [List.contains_iff_mem]
  constructor
  · intro h
    obtain ⟨i, hi, he⟩ := List.getElem_of_mem h
    rw [subB_len hd] at hi
    refine ⟨a + i, by omega, by omega, ?_⟩
    rw [← nth_subB hd hi, nth_eq _ _ (by rw [subB_len hd]; exact hi)]; exact he
  · rintro ⟨k, h1, h2, rfl⟩
    have hi : k - a < d - a := by omega
    have := nth_subB hd hi
    rw [show a + (k - a) = k by omega] at this
    rw [← this]
    exact nth_mem (by rw [subB_len hd]; exact hi)
/-- the bounds of what is left of a pane -/
def loN (c : List Int) (i : Nat) : Nat := if i < c.length then (nth c i).toNat else 0
def hiN (p : Prob) (c : List Int) (i : Nat) : Nat := if i < c.length then (nth c i).toNat + 1 else (nth p.opts i).length
theorem left_rng {p : Prob} {c : List Int} {i k : Nat} (h0 : i < c.length → 0 ≤ nth c i) (hk : k < (nth p.opts i).length) : leftB c i k = true ↔ loN c i ≤ k ∧ k < hiN p c i := by
  by_cases hi : i < c.length
  · rw [left_full hi (h0 hi)]
    unfold loN hiN; rw [if_pos hi, if_pos hi]; omega
  · unfold loN hiN leftB; rw [if_neg hi, if_neg hi]
    simp only [Bool.or_eq_true, decide_eq_true_iff]
    omega
theorem rng_bd {p : Prob} {c : List Int} {i : Nat} (h0 : i < c.length → 0 ≤ nth c i ∧ nth c i < (nth p.opts i).length) : loN c i ≤ hiN p c i ∧ hiN p c i ≤ (nth p.opts i).length := by
  unfold loN hiN
  by_cases hi : i < c.length
  · rw [if_pos hi, if_pos hi]; have := h0 hi; omega
  · rw [if_neg hi, if_neg hi]; omega
theorem rng_contains {p : Prob} {c : List Int} {i : Nat} {l : List Bool} (h0 : i < c.length → 0 ≤ nth c i ∧ nth c i < (nth p.opts i).length) (hl : l.length = (nth p.opts i).length) (b : Bool) :
    (subB l (loN c i) (hiN p c i)).contains b = decide (∃ k, k < l.length ∧ leftB c i k = true ∧ nth l k = b) := by
  have hb := rng_bd h0
  rw [Bool.eq_iff_iff, sub_contains (by omega), decide_eq_true_iff]
  constructor
  · rintro ⟨k, h1, h2, h3⟩
    exact ⟨k, by omega, (left_rng (fun h => (h0 h).1) (by omega)).2 ⟨h1, h2⟩, h3⟩
  · rintro ⟨k, h1, h2, h3⟩
    have := (left_rng (p := p) (fun h => (h0 h).1) (by omega)).1 h2
    exact ⟨k, this.1, this.2, h3⟩
/-- pairs: row by row -/
theorem pairL_yes {p : Prob} {r : Rl} {c : List Int} {i : Nat} (h0 : ∀ i, i < c.length → 0 ≤ nth c i ∧ nth c i < (nth p.opts i).length) (hl : r.ok.length = (nth p.opts (paneAt r 0)).length) (hl2 : ∀ i, i < r.ok.length → (nth r.ok i).length = (nth p.opts (paneAt r 1)).length)
    (hi1 : loN c (paneAt r 0) ≤ i) (hi2 : i < hiN p c (paneAt r 0)) (h : (subB (nth r.ok i) (loN c (paneAt r 1)) (hiN p c (paneAt r 1))).contains true = true) : pairL r c = true := by
  have hb := rng_bd (p := p) (h0 (paneAt r 0))
  have hi : i < r.ok.length := by omega
  rw [rng_contains (h0 _) (hl2 i hi), decide_eq_true_iff] at h
  obtain ⟨k, h1, h2, h3⟩ := h
  unfold pairL; rw [decide_eq_true_iff]
  exact ⟨i, hi, k, h1, (left_rng (p := p) (fun h => (h0 _ h).1) (by omega)).2 ⟨hi1, hi2⟩, h2, h3⟩
theorem pairL_no {p : Prob} {r : Rl} {c : List Int} (h0 : ∀ i, i < c.length → 0 ≤ nth c i ∧ nth c i < (nth p.opts i).length) (hl : r.ok.length = (nth p.opts (paneAt r 0)).length) (hl2 : ∀ i, i < r.ok.length → (nth r.ok i).length = (nth p.opts (paneAt r 1)).length)
    (h : ∀ i, loN c (paneAt r 0) ≤ i → i < hiN p c (paneAt r 0) → (subB (nth r.ok i) (loN c (paneAt r 1)) (hiN p c (paneAt r 1))).contains true = false) : pairL r c = false := by
  unfold pairL; rw [decide_eq_false_iff_not]
  rintro ⟨i, hi, k, h1, h2, h3, h4⟩
  have hr := (left_rng (p := p) (fun h => (h0 _ h).1) (by omega)).1 h2
  have := h i hr.1 hr.2
  rw [rng_contains (h0 _) (hl2 i hi), decide_eq_false_iff_not] at this
  exact this ⟨k, h1, h3, h4⟩
theorem hitL_sub {p : Prob} {r : Rl} {c : List Int} {i : Nat} (h0 : ∀ i, i < c.length → 0 ≤ nth c i ∧ nth c i < (nth p.opts i).length) (hl : (nth r.hits i).length = (nth p.opts (paneAt r i)).length) : (subB (nth r.hits i) (loN c (paneAt r i)) (hiN p c (paneAt r i))).contains true = hitL r c i := by
  rw [rng_contains (h0 _) hl]; rfl
theorem missL_sub {p : Prob} {r : Rl} {c : List Int} {i : Nat} (h0 : ∀ i, i < c.length → 0 ≤ nth c i ∧ nth c i < (nth p.opts i).length) (hl : (nth r.hits i).length = (nth p.opts (paneAt r i)).length) : (subB (nth r.hits i) (loN c (paneAt r i)) (hiN p c (paneAt r i))).contains false = missL r c i := by
  rw [rng_contains (h0 _) hl]; rfl
end Go.Proofs.Ytmpkbolabdmkkaa
