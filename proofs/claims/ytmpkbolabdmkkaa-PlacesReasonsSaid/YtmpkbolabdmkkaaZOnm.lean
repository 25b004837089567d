/- WHAT IS LEFT OF A VALID PROBLEM with the rules of some items only: it is valid, and what agrees with all agrees with some. -/
import Derived.Test.YtmpkbolabdmkkaaZOnl
namespace Go.Proofs.Ytmpkbolabdmkkaa

theorem itemsTo_congr {l l' : List Rl} : ∀ {k : Nat}, (∀ i, i < k → nth l i = nth l' i) → itemsTo l k = itemsTo l' k
  | 0, _ => rfl
  | k + 1, h => by
    have h1 := h k (by omega)
    have ih := itemsTo_congr (k := k) (fun i hi => h i (by omega))
    unfold itemsTo
    rw [ih, h1]
    by_cases h0 : k = 0
    · rw [if_pos (.inl h0), if_pos (.inl h0)]
    · rw [h (k - 1) (by omega)]

/-- what holds of the rules kept so far -/
structure OnlyInv (p : Prob) (it : List Int) (k : Nat) (L : List Rl) : Prop where
  ok : ∀ i, i < L.length → wi (nth L i).item 1 65535 = true ∧ ruleOK p (nth L i) = true
  up : ∀ i, 0 < i → i < L.length → (nth L (i - 1)).item ≤ (nth L i).item
  le : ∀ i, i < L.length → ∀ m, k ≤ m → m < p.rules.length → (nth L i).item ≤ (nth p.rules m).item
  cnt : (itemsTo L L.length).length ≤ (itemsTo p.rules k).length
  last : 0 < k → hasI it (nth p.rules (k - 1)).item = true → 0 < L.length ∧ (nth L (L.length - 1)).item = (nth p.rules (k - 1)).item

theorem rules_up {p : Prob} (hv : validP p = true) : ∀ {i j : Nat}, i ≤ j → j < p.rules.length → (nth p.rules i).item ≤ (nth p.rules j).item := by
  intro i j
  induction j with
  | zero => intro h _; have : i = 0 := by omega
            subst this; exact Int.le_refl _
  | succ j ih =>
    intro h hj
    rcases Nat.lt_or_ge i (j + 1) with h1 | h1
    · have h2 := ih (by omega) (by omega)
      have h3 := (ruleAtOK_iff.1 ((validP_iff.1 hv).2.2.1 (j + 1) hj)).2.1 (by omega)
      simp only [Nat.add_sub_cancel] at h3
      omega
    · have : i = j + 1 := by omega
      subst this; exact Int.le_refl _
theorem only_inv {p : Prob} (hv : validP p = true) (it : List Int) : ∀ k, k ≤ p.rules.length → OnlyInv p it k (onlyTo p it k)
  | 0, _ => ⟨fun i hi => absurd hi (Nat.not_lt_zero _), fun i _ hi => absurd hi (Nat.not_lt_zero _), fun i hi => absurd hi (Nat.not_lt_zero _), Nat.le_refl _, fun h => absurd h (Nat.lt_irrefl _)⟩
  | k + 1, hk => by
    have ih := only_inv hv it k (by omega)
    have hr := ruleAtOK_iff.1 ((validP_iff.1 hv).2.2.1 k (by omega))
    have hmono : (itemsTo p.rules k).length ≤ (itemsTo p.rules (k + 1)).length := by
      conv => rhs; unfold itemsTo
      split
      · simp
      · exact Nat.le_refl _
    cases hh : hasI it (nth p.rules k).item
    · rw [onlyTo_no hh]
      refine ⟨ih.ok, ih.up, fun i hi m h1 h2 => ih.le i hi m (by omega) h2, Nat.le_trans ih.cnt hmono, fun _ h => ?_⟩
      rw [Nat.add_sub_cancel, hh] at h; cases h
    · rw [onlyTo_yes hh]
      obtain ⟨L, hL⟩ : ∃ L, onlyTo p it k = L := ⟨_, rfl⟩
      rw [hL] at ih ⊢
      have hlen : (L ++ [nth p.rules k]).length = L.length + 1 := by simp
      have hleft : ∀ i, i < L.length → nth (L ++ [nth p.rules k]) i = nth L i := fun i hi => nth_append_left hi
      have hlastn : nth (L ++ [nth p.rules k]) L.length = nth p.rules k := nth_snoc _ _
      refine ⟨fun i hi => ?_, fun i h0 hi => ?_, fun i hi m h1 h2 => ?_, ?_, fun _ _ => ?_⟩
      · rcases Nat.lt_or_ge i L.length with h1 | h1
        · rw [hleft i h1]; exact ih.ok i h1
        · obtain rfl : i = L.length := by omega
          rw [hlastn]; exact ⟨hr.1, hr.2.2⟩
      · rcases Nat.lt_or_ge i L.length with h1 | h1
        · rw [hleft i h1, hleft (i - 1) (by omega)]; exact ih.up i h0 h1
        · obtain rfl : i = L.length := by omega
          rw [hlastn, hleft _ (by omega)]
          exact ih.le _ (by omega) k (Nat.le_refl _) (by omega)
      · rcases Nat.lt_or_ge i L.length with h3 | h3
        · rw [hleft i h3]; exact ih.le i h3 m (by omega) h2
        · obtain rfl : i = L.length := by omega
          rw [hlastn]; exact rules_up hv (by omega) h2
      · rw [hlen]
        have e1 : itemsTo (L ++ [nth p.rules k]) L.length = itemsTo L L.length := itemsTo_congr hleft
        have hc := ih.cnt
        by_cases hinc : L.length = 0 ∨ (nth (L ++ [nth p.rules k]) L.length).item ≠ (nth (L ++ [nth p.rules k]) (L.length - 1)).item
        · have e2 : (itemsTo (L ++ [nth p.rules k]) (L.length + 1)).length = (itemsTo L L.length).length + 1 := by
            conv => lhs; unfold itemsTo
            rw [if_pos hinc, e1]; simp
          have hpinc : k = 0 ∨ (nth p.rules k).item ≠ (nth p.rules (k - 1)).item := by
            rcases Nat.eq_zero_or_pos k with h0 | h0
            · exact .inl h0
            · refine .inr fun e => ?_
              obtain ⟨g1, g2⟩ := ih.last h0 (by rw [← e]; exact hh)
              rcases hinc with h1 | h1
              · omega
              · rw [hlastn, hleft _ (by omega)] at h1
                exact h1 (e.trans g2.symm)
          have e3 : (itemsTo p.rules (k + 1)).length = (itemsTo p.rules k).length + 1 := by
            conv => lhs; unfold itemsTo
            rw [if_pos hpinc]; simp
          omega
        · have e2 : (itemsTo (L ++ [nth p.rules k]) (L.length + 1)).length = (itemsTo L L.length).length := by
            conv => lhs; unfold itemsTo
            rw [if_neg hinc, e1]
          omega
      · refine ⟨by omega, ?_⟩
        rw [hlen, Nat.add_sub_cancel, Nat.add_sub_cancel, hlastn]
theorem only_valid {p : Prob} (hv : validP p = true) (it : List Int) : validP (onlyP p it) = true := by
  have hi := only_inv hv it p.rules.length (Nat.le_refl _)
  have hv' := validP_iff.1 hv
  refine validP_iff.2 ⟨⟨hv'.1.1, ?_⟩, hv'.2.1, fun i hil => ruleAtOK_iff.2 ⟨(hi.ok i hil).1, fun h0 => hi.up i h0 hil, (hi.ok i hil).2⟩, ?_⟩
  · have := onlyTo_len p it p.rules.length; have := hv'.1.2
    show (onlyTo p it p.rules.length).length ≤ 256; omega
  · have h1 := hi.cnt
    have h2 := hv'.2.2.2
    show (itemsTo (onlyTo p it p.rules.length) (onlyTo p it p.rules.length).length).length ≤ 16
    unfold items at h2; omega
theorem only_mem {p : Prob} {it : List Int} : ∀ k, k ≤ p.rules.length → ∀ i, i < (onlyTo p it k).length → ∃ m, m < p.rules.length ∧ nth (onlyTo p it k) i = nth p.rules m ∧ hasI it (nth p.rules m).item = true
  | 0, _, i, hi => absurd hi (Nat.not_lt_zero _)
  | k + 1, hk, i, hi => by
    cases hh : hasI it (nth p.rules k).item
    · rw [onlyTo_no hh] at hi ⊢; exact only_mem k (by omega) i hi
    · rw [onlyTo_yes hh] at hi ⊢
      rcases Nat.lt_or_ge i (onlyTo p it k).length with h1 | h1
      · rw [nth_append_left h1]; exact only_mem k (by omega) i h1
      · have : i = (onlyTo p it k).length := by simp at hi; omega
        subst this
        rw [nth_snoc]; exact ⟨k, by omega, rfl, hh⟩
theorem only_has {p : Prob} {it : List Int} : ∀ k, k ≤ p.rules.length → ∀ m, m < k → hasI it (nth p.rules m).item = true → ∃ i, i < (onlyTo p it k).length ∧ nth (onlyTo p it k) i = nth p.rules m
  | 0, _, m, hm, _ => absurd hm (Nat.not_lt_zero _)
  | k + 1, hk, m, hm, hh => by
    rcases Nat.lt_succ_iff_lt_or_eq.1 hm with h1 | rfl
    · obtain ⟨i, h2, h3⟩ := only_has k (by omega) m h1 hh
      cases h4 : hasI it (nth p.rules k).item
      · rw [onlyTo_no h4]; exact ⟨i, h2, h3⟩
      · rw [onlyTo_yes h4]; exact ⟨i, by simp; omega, by rw [nth_append_left h2]; exact h3⟩
    · rw [onlyTo_yes hh]; exact ⟨_, by simp, nth_snoc _ _⟩
/-- just the rules of the items are asked -/
theorem only_agrees {p : Prob} {it : List Int} {f : List Int} : agreesB (onlyP p it) f = true ↔ soundB p f = true ∧ ∀ m, m < p.rules.length → hasI it (nth p.rules m).item = true → keepsB (nth p.rules m) f = true := by
  unfold agreesB
  rw [Bool.and_eq_true, decide_eq_true_iff]
  constructor
  · rintro ⟨h1, h2⟩
    refine ⟨h1, fun m hm hh => ?_⟩
    obtain ⟨i, hi, e⟩ := only_has p.rules.length (Nat.le_refl _) m hm hh
    rw [← e]; exact h2 i hi
  · rintro ⟨h1, h2⟩
    refine ⟨h1, fun i hi => ?_⟩
    obtain ⟨m, hm, e, hh⟩ := only_mem (it := it) p.rules.length (Nat.le_refl _) i hi
    rw [show nth (onlyP p it).rules i = nth p.rules m from e]; exact h2 m hm hh
theorem only_more {p : Prob} {it : List Int} {f : List Int} (h : agreesB p f = true) : agreesB (onlyP p it) f = true := by
  unfold agreesB at h
  rw [Bool.and_eq_true, decide_eq_true_iff] at h
  exact only_agrees.2 ⟨h.1, fun m hm _ => h.2 m hm⟩
theorem only_prod (p : Prob) (it : List Int) : ∀ k, prodTo (onlyP p it) k = prodTo p k
  | 0 => rfl
  | k + 1 => by rw [prodTo_succ, prodTo_succ, only_prod p it k]; rfl
theorem only_total (p : Prob) (it : List Int) : total (onlyP p it) = total p := only_prod p it _
theorem only_unr (p : Prob) (it : List Int) : ∀ k r, unr (onlyP p it) k r = unr p k r
  | 0, _ => rfl
  | k + 1, r => by rw [unr_succ, unr_succ]; exact congrArg (· ++ [((r % dim p k : Nat) : Int)]) (only_unr p it k (r / dim p k))
theorem only_fills (p : Prob) (it : List Int) : fills (onlyP p it) = fills p := by
  unfold fills
  rw [only_total]
  exact List.map_congr_left fun r _ => only_unr p it _ r
theorem only_wrong {p : Prob} (hv : validP p = true) (it f : List Int) : wrongC (onlyP p it) f = wrongC p f := by
  unfold wrongC
  rw [if_pos (only_valid hv it), if_pos hv]; rfl
theorem only_large {p : Prob} (hv : validP p = true) (it : List Int) : largeE (onlyP p it) = largeE p := by
  unfold largeE
  rw [if_pos (only_valid hv it), if_pos hv, only_total]
theorem only_sub {p : Prob} {it : List Int} {f : List Int} (h : f ∈ agr p) : f ∈ agr (onlyP p it) := by
  unfold agr at h ⊢
  obtain ⟨h1, h2⟩ := List.mem_filter.1 h
  exact List.mem_filter.2 ⟨by rw [only_fills]; exact h1, only_more h2⟩
theorem filter_len {α : Type} {P Q : α → Bool} (h : ∀ x, P x = true → Q x = true) : ∀ l : List α, (l.filter P).length ≤ (l.filter Q).length
  | [] => Nat.le_refl _
  | x :: l => by
    have ih := filter_len h l
    rw [List.filter_cons, List.filter_cons]
    cases hP : P x
    · rw [if_neg (by simp)]
      split
      · rw [List.length_cons]; omega
      · exact ih
    · rw [if_pos rfl, if_pos (h x hP)]
      simpa using ih
theorem only_len (p : Prob) (it : List Int) : (agr p).length ≤ (agr (onlyP p it)).length := by
  unfold agr
  rw [only_fills]
  exact filter_len (fun _ h => only_more h) (fills p)
theorem only_poss {p : Prob} (hv : validP p = true) {it : List Int} {i o : Nat} (hi : i < p.opts.length) (ho : o < (nth p.opts i).length) (h : nth (nth (possT p) i) o = true) : nth (nth (possT (onlyP p it)) i) o = true := by
  obtain ⟨f, hf, e⟩ := (poss_iff hv hi ho).1 h
  exact (poss_iff (p := onlyP p it) (only_valid hv it) hi ho).2 ⟨f, only_sub hf, e⟩
end Go.Proofs.Ytmpkbolabdmkkaa
