/- THE ORDER OF FILLINGS is the order of their numbers; the next one that agrees. -/
import Derived.Test.YtmpkbolabdmkkaaFil4
namespace Go.Proofs.Ytmpkbolabdmkkaa

theorem rank_step_lt {p : Prob} {f g : List Int} {k : Nat} (hf : 0 ≤ nth f k ∧ nth f k < dim p k) (h : rankTo p f k < rankTo p g k) : rankTo p f (k + 1) < rankTo p g (k + 1) := by
  unfold rankTo
  have h1 : (nth f k).toNat < dim p k := by omega
  calc rankTo p f k * dim p k + (nth f k).toNat < rankTo p f k * dim p k + dim p k := by omega
    _ = (rankTo p f k + 1) * dim p k := by rw [Nat.add_mul, Nat.one_mul]
    _ ≤ rankTo p g k * dim p k := Nat.mul_le_mul_right _ h
    _ ≤ rankTo p g k * dim p k + (nth g k).toNat := Nat.le_add_right _ _
theorem rank_far_lt {p : Prob} {f g : List Int} {n i : Nat} (hf : ∀ j, j < n → 0 ≤ nth f j ∧ nth f j < dim p j) (h : rankTo p f i < rankTo p g i) : ∀ m, i + m ≤ n → rankTo p f (i + m) < rankTo p g (i + m)
  | 0, _ => h
  | m + 1, hm => rank_step_lt (hf (i + m) (by omega)) (rank_far_lt hf h m (by omega))
theorem lessTo_rank {p : Prob} {a b : List Int} {n : Nat} (ha : ∀ i, i < n → 0 ≤ nth a i ∧ nth a i < dim p i) (hb : ∀ i, i < n → 0 ≤ nth b i ∧ nth b i < dim p i) : ∀ m i, i + m = n → rankTo p a i = rankTo p b i → lessTo a b m i = decide (rankTo p a n < rankTo p b n)
  | 0, i, hi, h => by
    obtain rfl : i = n := by omega
    show false = _
    rw [h]; simp
  | m + 1, i, hi, h => by
    have h1 := ha i (by omega)
    have h2 := hb i (by omega)
    by_cases hc : nth a i = nth b i
    · rw [lessTo_no hc]
      exact lessTo_rank ha hb m (i + 1) (by omega) (by unfold rankTo; rw [h, hc])
    · rw [lessTo_yes hc]
      have e : n = i + 1 + m := by omega
      by_cases hlt : nth a i < nth b i
      · have h3 : rankTo p a (i + 1) < rankTo p b (i + 1) := by unfold rankTo; rw [h]; omega
        have h4 := rank_far_lt ha h3 m (by omega)
        rw [e]; simp [hlt, h4]
      · have h3 : rankTo p b (i + 1) < rankTo p a (i + 1) := by unfold rankTo; rw [h]; omega
        have h4 := rank_far_lt hb h3 m (by omega)
        rw [e]; simp [hlt]; omega
theorem lessB_fill {p : Prob} (hv : validP p = true) {r s : Nat} (hr : r < total p) (hs : s < total p) : lessB (fill p r) (fill p s) = decide (r < s) := by
  have hd : ∀ i, i < p.opts.length → 0 < dim p i := fun _ hi => (valid_dim hv hi).1
  unfold lessB fill
  rw [unr_len, lessTo_rank (p := p) (n := p.opts.length) (unr_ok p _ r hd).2 (unr_ok p _ s hd).2 _ 0 (by omega) rfl]
  rw [rank_unr p _ r hd hr, rank_unr p _ s hd hs]
theorem fillB_fill {p : Prob} (hv : validP p = true) {f : List Int} (hf : fillB p f = true) : ∃ r, r < total p ∧ f = fill p r := by
  obtain ⟨h1, h2⟩ := fillB_iff.1 hf
  rw [← valid_len hv] at h1
  have h3 : ∀ i, i < p.opts.length → 0 ≤ nth f i ∧ nth f i < dim p i := fun i hi => by
    have := wi_iff.1 (h2 i (by omega)); unfold dim; omega
  refine ⟨rankTo p f p.opts.length, rank_lt p _ h3, ?_⟩
  unfold fill
  rw [unr_rank p _ (by omega) h3, ← h1, List.take_length]

theorem find_filter {l : List (List Int)} {P Q : List Int → Bool} : (l.filter P).find? Q = l.find? (fun x => P x && Q x) := by
  rw [List.find?_filter]; congr 1; funext x; cases P x <;> simp
theorem next_find {p : Prob} (hv : validP p = true) {r k : Nat} (hr : r < total p) (hk : k < total p) (hrk : r < k) (ha : agreesB p (fill p k) = true) (hno : ∀ i, r < i → i < k → agreesB p (fill p i) = false) :
    (agr p).find? (lessB (fill p r)) = some (fill p k) := by
  unfold agr
  have e := nth_fills (p := p) hk
  rw [find_filter, find_at (k := k) (by rw [fills_len]; exact hk), e]
  · rw [e, ha, lessB_fill hv hr hk]; simp [hrk]
  · intro i hi
    rw [nth_fills (by omega), lessB_fill hv hr (by omega)]
    by_cases h : r < i
    · rw [hno i h hi]; rfl
    · simp [h]
theorem next_none {p : Prob} (hv : validP p = true) {r : Nat} (hr : r < total p) (hno : ∀ i, r < i → i < total p → agreesB p (fill p i) = false) : (agr p).find? (lessB (fill p r)) = none := by
  unfold agr
  rw [find_filter]
  refine find_none fun i hi => ?_
  rw [fills_len] at hi
  rw [nth_fills hi, lessB_fill hv hr hi]
  by_cases h : r < i
  · rw [hno i h hi]; rfl
  · simp [h]

/-- the k-th filling, where it agrees, is the next of those that agree -/
theorem agr_split (p : Prob) (k : Nat) : agr p = agrTo p k ++ ((fills p).drop k).filter (agreesB p) := by
  unfold agr agrTo; rw [← List.filter_append, List.take_append_drop]
theorem agr_at {p : Prob} {k : Nat} (hk : k < (fills p).length) (h : agreesB p (nth (fills p) k) = true) : (agrTo p k).length < (agr p).length ∧ nth (agr p) (agrTo p k).length = nth (fills p) k := by
  have e : ((fills p).drop k).filter (agreesB p) = nth (fills p) k :: ((fills p).drop (k + 1)).filter (agreesB p) := by
    rw [List.drop_eq_getElem_cons hk, List.filter_cons, ← nth_eq _ _ hk, if_pos h]
  rw [agr_split p k, e]
  refine ⟨by simp, ?_⟩
  rw [nth_eq _ _ (by simp)]; simp
theorem nth_drop {α : Type} [Inhabited α] (l : List α) (r k : Nat) : nth (l.drop r) k = nth l (r + k) := by
  unfold nth; rw [List.getD_eq_getElem?_getD, List.getD_eq_getElem?_getD, List.getElem?_drop]

/-- what is asked of a problem of which all fillings are gone through -/
def askE (p : Prob) (right : Bool) : Int := if validP p = false then 70 else if right = false then 1 else if 65536 < total p then 2 else 0
theorem askE_true (p : Prob) : askE p true = largeE p := by
  unfold askE largeE; cases validP p <;> simp
theorem askE_0 {p : Prob} {b : Bool} : askE p b = 0 ↔ validP p = true ∧ b = true ∧ total p ≤ 65536 := by
  unfold askE; cases validP p <;> cases b <;> simp
end Go.Proofs.Ytmpkbolabdmkkaa
