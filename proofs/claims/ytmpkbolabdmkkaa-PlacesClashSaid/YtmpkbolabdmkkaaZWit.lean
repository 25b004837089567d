/- WITNESSES, what is possible and where a piece can be: the plain laws of PlacesWitness. -/
import Derived.Test.YtmpkbolabdmkkaaZPos
import Derived.Test.YtmpkbolabdmkkaaZi
namespace Go.Proofs.Ytmpkbolabdmkkaa

theorem there_of {p : Prob} (hv : validP p = true) {i o : Nat} (hi : i < p.opts.length) (ho : o < (nth p.opts i).length) : thereB p i o = true := by
  have := valid_len hv
  unfold thereB wi
  rw [show ((i : Int)).toNat = i from rfl]
  simp; omega
theorem witE_large {p : Prob} {i o : Nat} (hi : i < p.opts.length) (ho : o < (nth p.opts i).length) (h : largeE p ≠ 0) : witE p i o = largeE p := by
  unfold witE
  unfold largeE at h ⊢
  cases hv : validP p
  · simp
  · rw [there_of hv hi ho]
    rw [hv] at h
    by_cases ht : 65536 < total p <;> simp [ht] at h ⊢
theorem witE_small {p : Prob} {i o : Nat} (hi : i < p.opts.length) (ho : o < (nth p.opts i).length) (h : largeE p = 0) : witE p i o = if ((agr p).find? (hasB i o)).isSome then 0 else 3 := by
  obtain ⟨hv, ht⟩ := largeE_0.1 h
  unfold witE
  rw [hv, there_of hv hi ho, if_neg (by decide), if_neg (by decide), if_neg (by omega)]
theorem poss_wit {p : Prob} {i o : Nat} (hi : i < p.opts.length) (ho : o < (nth p.opts i).length) (h : largeE p = 0) : nth (nth (possT p) i) o = (witE p i o == 0) := by
  obtain ⟨hv, _⟩ := largeE_0.1 h
  rw [witE_small hi ho h]
  cases hf : (agr p).find? (hasB i o) with
  | none =>
    cases hb : nth (nth (possT p) i) o
    · rfl
    · obtain ⟨f, hf1, hf2⟩ := (poss_iff hv hi ho).1 hb
      have := List.find?_eq_none.1 hf f hf1
      exact absurd (show hasB i o f = true by unfold hasB; rw [show ((i : Int)).toNat = i from rfl, hf2]; simp) this
  | some f =>
    have h1 := List.mem_of_find?_eq_some hf
    have h2 := List.find?_some hf
    have : nth f i = (o : Int) := by unfold hasB at h2; rw [show ((i : Int)).toNat = i from rfl] at h2; simpa using h2
    rw [(poss_iff hv hi ho).2 ⟨f, h1, this⟩]
    rfl
theorem wit_agr {p : Prob} {i o : Nat} (hi : i < p.opts.length) (ho : o < (nth p.opts i).length) (h : largeE p = 0) (hw : witE p i o = 0) : witL p i o ∈ agr p ∧ nth (witL p i o) i = (o : Int) := by
  unfold witL
  rw [if_pos hw]
  rw [witE_small hi ho h] at hw
  cases hf : (agr p).find? (hasB i o) with
  | none => rw [hf] at hw; simp at hw
  | some f =>
    have h1 := List.mem_of_find?_eq_some hf
    have h2 := List.find?_some hf
    refine ⟨h1, ?_⟩
    unfold hasB at h2; rw [show ((i : Int)).toNat = i from rfl] at h2
    show nth f i = _
    simpa using h2

/-- some possible option of pane j, of the first o, has the piece -/
def thereTo (p : Prob) (piece : Int) (j : Nat) (o : Nat) : Bool := decide (∃ q, q < o ∧ nth (nth (possT p) j) q = true ∧ (nth (nth p.opts j) q).piece = piece)
theorem thereTo_0 (p : Prob) (piece : Int) (j : Nat) : thereTo p piece j 0 = false := by simp [thereTo]
theorem thereTo_succ (p : Prob) (piece : Int) (j o : Nat) : thereTo p piece j (o + 1) = (thereTo p piece j o || (nth (nth (possT p) j) o && (nth (nth p.opts j) o).piece == piece)) := by
  unfold thereTo
  rw [Bool.eq_iff_iff]
  simp only [decide_eq_true_eq, Bool.or_eq_true, Bool.and_eq_true, beq_iff_eq]
  constructor
  · rintro ⟨q, h1, h2⟩
    rcases Nat.lt_succ_iff_lt_or_eq.1 h1 with h3 | rfl
    · exact .inl ⟨q, h3, h2⟩
    · exact .inr h2
  · rintro (⟨q, h1, h2⟩ | h)
    · exact ⟨q, by omega, h2⟩
    · exact ⟨o, Nat.lt_succ_self _, h⟩
theorem foundTo_iff (p : Prob) (piece : Int) (j : Nat) : ∀ n, foundTo p piece j n = true ↔ ∃ m, m < n ∧ usesB p (nth (agr p) m) j piece = true
  | 0 => by simp [foundTo]
  | n + 1 => by
    show (foundTo p piece j n || usesB p (nth (agr p) n) j piece) = true ↔ _
    rw [Bool.or_eq_true, foundTo_iff p piece j n]
    constructor
    · rintro (⟨m, h1, h2⟩ | h)
      · exact ⟨m, by omega, h2⟩
      · exact ⟨n, Nat.lt_succ_self _, h⟩
    · rintro ⟨m, h1, h2⟩
      rcases Nat.lt_succ_iff_lt_or_eq.1 h1 with h3 | rfl
      · exact .inl ⟨m, h3, h2⟩
      · exact .inr h2
theorem uses_iff {p : Prob} {f : List Int} {j : Nat} {piece : Int} (hj : j < f.length) : usesB p f j piece = true ↔ pieceAt p f j = piece := by
  constructor
  · intro h
    unfold usesB at h
    rw [decide_eq_true_iff] at h
    obtain ⟨i, _, h1, h2⟩ := h
    have : i = j := by omega
    subst this; exact h2
  · exact fun h => usesB_yes hj (.inr rfl) h
theorem thereTo_all {p : Prob} (hv : validP p = true) (piece : Int) {j : Nat} (hj : j < p.opts.length) : thereTo p piece j (nth p.opts j).length = foundTo p piece j (agr p).length := by
  rw [Bool.eq_iff_iff, foundTo_iff]
  unfold thereTo
  rw [decide_eq_true_iff]
  constructor
  · rintro ⟨q, h1, h2, h3⟩
    obtain ⟨f, hf, hfj⟩ := (poss_iff hv hj h1).1 h2
    obtain ⟨m, hm, rfl⟩ := List.getElem_of_mem hf
    obtain ⟨_, hl, _, _⟩ := agr_mem hv hf
    refine ⟨m, hm, ?_⟩
    rw [nth_eq _ _ hm, uses_iff (by rw [hl]; exact hj)]
    unfold pieceAt; rw [hfj]; exact h3
  · rintro ⟨m, hm, h⟩
    obtain ⟨_, hl, hr, _⟩ := agr_mem hv (nth_mem hm)
    rw [uses_iff (by rw [hl]; exact hj)] at h
    have hb := hr j (by rw [hl]; exact hj)
    obtain ⟨q, hq⟩ := Int.eq_ofNat_of_zero_le hb.1
    refine ⟨q, by omega, (poss_iff hv hj (by omega)).2 ⟨_, nth_mem hm, hq⟩, ?_⟩
    unfold pieceAt at h; rw [hq] at h; exact h

theorem whereTo_pre (p : Prob) (piece : Int) : ∀ n j, j ≤ n → ∃ t, whereTo p piece n = whereTo p piece j ++ t
  | 0, j, h => by obtain rfl : j = 0 := by omega
                  exact ⟨[], by simp⟩
  | n + 1, j, h => by
    by_cases hj : j = n + 1
    · subst hj; exact ⟨[], by simp⟩
    · obtain ⟨t, ht⟩ := whereTo_pre p piece n j (by omega)
      show ∃ t, (if foundTo p piece n (agr p).length = true then whereTo p piece n ++ [nth p.panes n] else whereTo p piece n) = _
      split
      · exact ⟨t ++ [nth p.panes n], by rw [ht, List.append_assoc]⟩
      · exact ⟨t, ht⟩
theorem whereTo_at {p : Prob} {piece : Int} {n j : Nat} (hj : j < n) (h : foundTo p piece j (agr p).length = true) : (whereTo p piece j).length < (whereTo p piece n).length ∧ nth (whereTo p piece n) (whereTo p piece j).length = nth p.panes j := by
  obtain ⟨t, ht⟩ := whereTo_pre p piece n (j + 1) hj
  have h1 : whereTo p piece (j + 1) = whereTo p piece j ++ [nth p.panes j] := by show (if _ then _ else _) = _; rw [if_pos h]
  rw [h1] at ht
  rw [ht]
  refine ⟨by simp, ?_⟩
  rw [nth_append_left (by simp), nth_snoc]
theorem whereTo_len1 {p : Prob} {piece : Int} {j : Nat} : (whereTo p piece (j + 1)).length = if foundTo p piece j (agr p).length = true then (whereTo p piece j).length + 1 else (whereTo p piece j).length := by
  show (if _ then _ else _ : List Int).length = _
  split <;> simp
/-- a piece of a valid option is 0 or one that can be asked for -/
theorem piece_ok {p : Prob} (hv : validP p = true) {i o : Nat} (hi : i < p.opts.length) (ho : o < (nth p.opts i).length) (h : (nth (nth p.opts i) o).piece ≠ 0) : wi (nth (nth p.opts i) o).piece 1 65535 = true := by
  have h1 := (paneOK_iff.1 ((validP_iff.1 hv).2.1 i (by rw [← valid_len hv]; exact hi))).2.2
  unfold optsOK at h1
  rw [decide_eq_true_iff] at h1
  have h2 := (h1.2.2 o ho).1
  unfold optOK wi at h2
  unfold wi
  simp only [Bool.and_eq_true, decide_eq_true_eq] at h2 ⊢
  omega
theorem whereE_0 {p : Prob} {piece : Int} (h : largeE p = 0) (hw : wi piece 1 65535 = true) : whereE p piece = 0 := by
  obtain ⟨hv, ht⟩ := largeE_0.1 h
  unfold whereE; rw [hv, hw, if_neg (by decide), if_neg (by decide), if_neg (by omega)]
end Go.Proofs.Ytmpkbolabdmkkaa
