/- THE LEAST SET: which sets of items clash, that a least one is found, in plain Lean. -/
import Derived.Test.YtmpkbolabdmkkaaZMsk
import Derived.Test.YtmpkbolabdmkkaaZOnm
namespace Go.Proofs.Ytmpkbolabdmkkaa

theorem items_up {p : Prob} (hv : validP p = true) : ∀ k, k ≤ p.rules.length → (∀ i, 0 < i → i < (itemsTo p.rules k).length → nth (itemsTo p.rules k) (i - 1) < nth (itemsTo p.rules k) i) ∧
    (0 < k → 0 < (itemsTo p.rules k).length ∧ nth (itemsTo p.rules k) ((itemsTo p.rules k).length - 1) = (nth p.rules (k - 1)).item)
  | 0, _ => ⟨fun i _ hi => absurd hi (Nat.not_lt_zero _), fun h => absurd h (Nat.lt_irrefl _)⟩
  | k + 1, hk => by
    obtain ⟨ih1, ih2⟩ := items_up hv k (by omega)
    by_cases hc : k = 0 ∨ (nth p.rules k).item ≠ (nth p.rules (k - 1)).item
    · have e : itemsTo p.rules (k + 1) = itemsTo p.rules k ++ [(nth p.rules k).item] := by show (if _ then _ else _) = _; rw [if_pos hc]
      rw [e]
      refine ⟨fun i h0 hi => ?_, fun _ => ⟨by simp, ?_⟩⟩
      · rw [List.length_append, List.length_singleton] at hi
        rcases Nat.lt_or_ge i (itemsTo p.rules k).length with h1 | h1
        · rw [nth_append_left h1, nth_append_left (by omega)]; exact ih1 i h0 h1
        · obtain rfl : i = (itemsTo p.rules k).length := by omega
          rw [nth_snoc, nth_append_left (by omega)]
          have hk0 : 0 < k := by
            rcases Nat.eq_zero_or_pos k with h | h
            · subst h; simp [itemsTo] at h0
            · exact h
          obtain ⟨_, g2⟩ := ih2 hk0
          rw [g2]
          have h3 := rules_up hv (i := k - 1) (j := k) (by omega) (by omega)
          rcases hc with h4 | h4
          · omega
          · omega
      · rw [List.length_append, List.length_singleton, Nat.add_sub_cancel, Nat.add_sub_cancel, nth_snoc]
    · have e : itemsTo p.rules (k + 1) = itemsTo p.rules k := by show (if _ then _ else _) = _; rw [if_neg hc]
      rw [e]
      refine ⟨ih1, fun _ => ?_⟩
      have hk0 : 0 < k := by
        rcases Nat.eq_zero_or_pos k with h | h
        · exact absurd (.inl h) hc
        · exact h
      obtain ⟨g1, g2⟩ := ih2 hk0
      refine ⟨g1, ?_⟩
      rw [g2, Nat.add_sub_cancel]
      by_cases h4 : (nth p.rules k).item = (nth p.rules (k - 1)).item
      · exact h4.symm
      · exact absurd (.inr h4) hc
theorem items_lt {p : Prob} (hv : validP p = true) {i : Nat} : ∀ {j : Nat}, i < j → j < (items p).length → nth (items p) i < nth (items p) j := by
  intro j
  induction j with
  | zero => intro h _; omega
  | succ j ih =>
    intro h hj
    have h1 := (items_up hv p.rules.length (Nat.le_refl _)).1 (j + 1) (by omega) hj
    rw [Nat.add_sub_cancel] at h1
    rcases Nat.lt_or_ge i j with h2 | h2
    · have := ih h2 (by omega)
      exact Int.lt_trans this h1
    · obtain rfl : i = j := by omega
      exact h1
theorem listedTo_mem (its : List Int) (s : Nat) {k : Nat} {x : Int} : x ∈ listedTo its s k ↔ ∃ j, j < k ∧ s.testBit j = true ∧ nth its j = x := by
  unfold listedTo
  simp only [List.mem_map, List.mem_filter, List.mem_range, and_assoc]
theorem listedTo_up (its : List Int) (hup : ∀ i j, i < j → j < its.length → nth its i < nth its j) (s : Nat) : ∀ k, k ≤ its.length → ∀ i, i < (listedTo its s k).length → 0 < i → nth (listedTo its s k) (i - 1) < nth (listedTo its s k) i
  | 0, _, i, hi, _ => by simp [listedTo] at hi
  | k + 1, hk, i, hi, h0 => by
    have ih := listedTo_up its hup s k (by omega)
    rw [listedTo_succ] at hi ⊢
    split at hi
    · rename_i hb
      rw [if_pos hb]
      rw [List.length_append, List.length_singleton] at hi
      rcases Nat.lt_or_ge i (listedTo its s k).length with h1 | h1
      · rw [nth_append_left h1, nth_append_left (by omega)]; exact ih i h1 h0
      · obtain rfl : i = (listedTo its s k).length := by omega
        rw [nth_snoc, nth_append_left (by omega)]
        have hm : nth (listedTo its s k) ((listedTo its s k).length - 1) ∈ listedTo its s k := nth_mem (by omega)
        obtain ⟨j, hj, _, e⟩ := (listedTo_mem its s).1 hm
        rw [← e]; exact hup j k hj (by omega)
    · rename_i hb
      rw [if_neg hb]; exact ih i hi h0
theorem listed_rising {p : Prob} (hv : validP p = true) (s : Nat) : risingB (listed (items p) s) = true :=
  risingB_yes (listedTo_up (items p) (fun _ _ h1 h2 => items_lt hv h1 h2) s _ (Nat.le_refl _))
/-- an item of a rule is in a set just if its bit is -/
theorem listed_has {p : Prob} (hv : validP p = true) (s : Nat) {m : Nat} (hm : m < p.rules.length) : hasI (listed (items p) s) (nth p.rules m).item = s.testBit ((items p).idxOf (nth p.rules m).item) := by
  have hlt := idx_lt p hm
  have hat : nth (items p) ((items p).idxOf (nth p.rules m).item) = (nth p.rules m).item := by rw [nth_eq _ _ hlt]; exact List.getElem_idxOf hlt
  rw [Bool.eq_iff_iff, hasI_iff]
  unfold listed
  rw [listedTo_mem]
  constructor
  · rintro ⟨j, hj, hb, e⟩
    have : j = (items p).idxOf (nth p.rules m).item := by
      rcases Nat.lt_trichotomy j ((items p).idxOf (nth p.rules m).item) with h | h | h
      · have := items_lt hv h hlt; rw [e, hat] at this; omega
      · exact h
      · have := items_lt hv h hj; rw [e, hat] at this; omega
    rw [← this]; exact hb
  · intro hb
    exact ⟨_, hlt, hb, hat⟩
theorem vmTo_bit (p : Prob) (f : List Int) (j : Nat) : ∀ k, (vmTo p f k).testBit j = true ↔ ∃ m, m < k ∧ keepsB (nth p.rules m) f = false ∧ (items p).idxOf (nth p.rules m).item = j
  | 0 => by simp [vmTo]
  | k + 1 => by
    have ih := vmTo_bit p f j k
    unfold vmTo
    cases hk : keepsB (nth p.rules k) f
    · rw [if_neg (by simp), Nat.testBit_or, Bool.or_eq_true, ih, Nat.testBit_two_pow, decide_eq_true_iff]
      constructor
      · rintro (⟨m, h1, h2⟩ | h)
        · exact ⟨m, by omega, h2⟩
        · exact ⟨k, by omega, hk, h⟩
      · rintro ⟨m, h1, h2, h3⟩
        rcases Nat.lt_succ_iff_lt_or_eq.1 h1 with h4 | rfl
        · exact .inl ⟨m, h4, h2, h3⟩
        · exact .inr h3
    · rw [if_pos rfl, ih]
      constructor
      · rintro ⟨m, h1, h2⟩; exact ⟨m, by omega, h2⟩
      · rintro ⟨m, h1, h2, h3⟩
        rcases Nat.lt_succ_iff_lt_or_eq.1 h1 with h4 | rfl
        · exact ⟨m, h4, h2, h3⟩
        · rw [hk] at h2; cases h2
theorem or_bit {n s k : Nat} (hs : s < 2 ^ n) (hn : n ≤ 16) (hk : k < n) (h : s.testBit k = false) : s + 2 ^ k = s ||| 2 ^ k := by
  have hp : 2 ^ n ≤ 2 ^ 16 := Nat.pow_le_pow_right (by decide) hn
  have hkn : 2 ^ k < 2 ^ n := Nat.pow_lt_pow_right (by decide) hk
  have h0 : s &&& 2 ^ k = 0 := by
    apply Nat.eq_of_testBit_eq
    intro j
    rw [Nat.testBit_and, Nat.testBit_two_pow]
    by_cases hj : k = j
    · subst hj; simp [h]
    · simp [hj]
  exact nat_add_or (by omega) (by omega) h0
theorem kUp_iff (g : Nat → Bool) {n : Nat} (hn : n ≤ 16) : ∀ k, k ≤ n → ∀ s, s < 2 ^ n → (kUp g k s = true ↔ ∃ t, t < 2 ^ n ∧ g t = true ∧ (∀ j, k ≤ j → t.testBit j = s.testBit j) ∧ ∀ j, j < k → s.testBit j = true → t.testBit j = true)
  | 0, _, s, hs => by
    constructor
    · intro h; exact ⟨s, hs, h, fun _ _ => rfl, fun j hj => absurd hj (Nat.not_lt_zero _)⟩
    · rintro ⟨t, _, h, h1, _⟩
      have : t = s := Nat.eq_of_testBit_eq fun j => h1 j (Nat.zero_le _)
      subst this; exact h
  | k + 1, hk, s, hs => by
    have ih := kUp_iff g hn k (by omega)
    show kStep k (kUp g k) s = true ↔ _
    unfold kStep
    rw [Bool.or_eq_true, Bool.and_eq_true, Bool.not_eq_true', ih s hs]
    constructor
    · rintro (⟨t, h1, h2, h3, h4⟩ | ⟨hb, h⟩)
      · refine ⟨t, h1, h2, fun j hj => h3 j (by omega), fun j hj hs' => ?_⟩
        rcases Nat.lt_succ_iff_lt_or_eq.1 hj with h5 | rfl
        · exact h4 j h5 hs'
        · rw [h3 j (Nat.le_refl _)]; exact hs'
      · obtain ⟨t, h1, h2, h3, h4⟩ := (ih (s + 2 ^ k) (add_bit hs hn (by omega) hb)).1 h
        rw [or_bit hs hn (by omega) hb] at h3 h4
        refine ⟨t, h1, h2, fun j hj => ?_, fun j hj hs' => ?_⟩
        · rw [h3 j (by omega), Nat.testBit_or, Nat.testBit_two_pow, decide_eq_false (by omega), Bool.or_false]
        · rcases Nat.lt_succ_iff_lt_or_eq.1 hj with h5 | rfl
          · exact h4 j h5 (by rw [Nat.testBit_or, hs', Bool.true_or])
          · rw [hb] at hs'; cases hs'
    · rintro ⟨t, h1, h2, h3, h4⟩
      by_cases e : t.testBit k = s.testBit k
      · refine .inl ⟨t, h1, h2, fun j hj => ?_, fun j hj => h4 j (by omega)⟩
        rcases Nat.lt_or_ge k j with h5 | h5
        · exact h3 j (by omega)
        · obtain rfl : j = k := by omega
          exact e
      · have hsb : s.testBit k = false := by
          cases h : s.testBit k
          · rfl
          · exact absurd ((h4 k (by omega) h).trans h.symm) e
        have htb : t.testBit k = true := by
          cases h : t.testBit k
          · exact absurd (h.trans hsb.symm) e
          · rfl
        refine .inr ⟨hsb, (ih (s + 2 ^ k) (add_bit hs hn (by omega) hsb)).2 ⟨t, h1, h2, ?_, ?_⟩⟩
        · intro j hj
          rw [or_bit hs hn (by omega) hsb, Nat.testBit_or, Nat.testBit_two_pow]
          rcases Nat.lt_or_ge k j with h5 | h5
          · rw [h3 j (by omega), decide_eq_false (by omega), Bool.or_false]
          · obtain rfl : j = k := by omega
            rw [htb, decide_eq_true rfl, Bool.or_true]
        · intro j hj hs'
          rw [or_bit hs hn (by omega) hsb, Nat.testBit_or, Nat.testBit_two_pow, decide_eq_false (by omega), Bool.or_false] at hs'
          exact h4 j (by omega) hs'
theorem kept_iff {p : Prob} (hv : validP p = true) (of : List Int → Bool) {s : Nat} (hs : s < 2 ^ (items p).length) :
    keptK p of s = true ↔ ∃ f ∈ agr (onlyP p (listed (items p) s)), of f = true := by
  have hn := (validP_iff.1 hv).2.2.2
  unfold keptK
  rw [kUp_iff _ hn _ (Nat.le_refl _) s hs]
  have hbit : ∀ f j, j < (items p).length → (2 ^ (items p).length - 1 - vm p f).testBit j = !(vm p f).testBit j := fun f j hj => by
    have := Nat.testBit_two_pow_sub_succ (vm_lt p f) j
    rw [show 2 ^ (items p).length - 1 - vm p f = 2 ^ (items p).length - (vm p f + 1) by omega, this, decide_eq_true hj, Bool.true_and]
  have hk0 : ∀ t, k0To p of (total p) t = true ↔ ∃ f ∈ fills p, useB p of f = true ∧ t = 2 ^ (items p).length - 1 - vm p f := fun t => by
    unfold k0To
    rw [show (fills p).take (total p) = fills p by rw [← fills_len p, List.take_length], List.any_eq_true]
    constructor
    · rintro ⟨f, h1, h2⟩
      rw [Bool.and_eq_true, beq_iff_eq] at h2
      exact ⟨f, h1, h2⟩
    · rintro ⟨f, h1, h2⟩
      exact ⟨f, h1, by rw [Bool.and_eq_true, beq_iff_eq]; exact h2⟩
  have hmem : ∀ f, f ∈ agr (onlyP p (listed (items p) s)) ↔ f ∈ fills p ∧ soundB p f = true ∧ ∀ j, j < (items p).length → s.testBit j = true → (vm p f).testBit j = false := fun f => by
    unfold agr
    rw [List.mem_filter, only_fills, only_agrees]
    refine and_congr_right fun _ => and_congr_right fun _ => ?_
    constructor
    · intro h j _ hb
      cases hvb : (vm p f).testBit j
      · rfl
      · obtain ⟨m, h1, h2, h3⟩ := (vmTo_bit p f j p.rules.length).1 hvb
        have := h m h1 (by rw [listed_has hv s h1, h3]; exact hb)
        rw [h2] at this; cases this
    · intro h m hm hh
      rw [listed_has hv s hm] at hh
      cases hk : keepsB (nth p.rules m) f
      · have := h _ (idx_lt p hm) hh
        have h2 := (vmTo_bit p f ((items p).idxOf (nth p.rules m).item) p.rules.length).2 ⟨m, hm, hk, rfl⟩
        unfold vm at this
        rw [h2] at this; cases this
      · rfl
  constructor
  · rintro ⟨t, _, h2, _, h4⟩
    obtain ⟨f, hf, hu, rfl⟩ := (hk0 t).1 h2
    unfold useB at hu
    rw [Bool.and_eq_true] at hu
    refine ⟨f, (hmem f).2 ⟨hf, hu.1, fun j hj hb => ?_⟩, hu.2⟩
    have := h4 j hj hb
    rw [hbit f j hj] at this
    simpa using this
  · rintro ⟨f, hf, ho⟩
    obtain ⟨h1, h2, h3⟩ := (hmem f).1 hf
    have hlt : 2 ^ (items p).length - 1 - vm p f < 2 ^ (items p).length := by have := Nat.two_pow_pos (items p).length; omega
    refine ⟨_, hlt, (hk0 _).2 ⟨f, h1, by unfold useB; rw [h2, ho]; rfl, rfl⟩, fun j hj => ?_, fun j hj hb => ?_⟩
    · rw [Nat.testBit_lt_two_pow (Nat.lt_of_lt_of_le hlt (Nat.pow_le_pow_right (by decide) hj)), Nat.testBit_lt_two_pow (Nat.lt_of_lt_of_le hs (Nat.pow_le_pow_right (by decide) hj))]
    · rw [hbit f j hj, h3 j hj hb]; rfl
/-- all items: all rules -/
theorem only_full {p : Prob} (hv : validP p = true) : agr (onlyP p (listed (items p) (2 ^ (items p).length - 1))) = agr p := by
  unfold agr
  rw [only_fills]
  refine List.filter_congr fun f _ => ?_
  rw [Bool.eq_iff_iff]
  constructor
  · intro h
    obtain ⟨h1, h2⟩ := only_agrees.1 h
    unfold agreesB
    rw [Bool.and_eq_true, decide_eq_true_iff]
    refine ⟨h1, fun m hm => h2 m hm ?_⟩
    rw [listed_has hv _ hm]
    have := Nat.testBit_two_pow_sub_one (items p).length ((items p).idxOf (nth p.rules m).item)
    rw [this, decide_eq_true (idx_lt p hm)]
  · exact only_more
theorem best_spec (its : List Int) (K : Nat → Bool) (h0 : K (2 ^ its.length - 1) = false) : ∀ m, K (bestTo its K m) = false ∧ ∀ s, s < m → K s = false → cnt its.length (bestTo its K m) ≤ cnt its.length s
  | 0 => ⟨h0, fun s h => absurd h (Nat.not_lt_zero _)⟩
  | m + 1 => by
    obtain ⟨ih1, ih2⟩ := best_spec its K h0 m
    unfold bestTo
    split
    · rename_i h
      refine ⟨h.1, fun s hs hK => ?_⟩
      rcases Nat.lt_succ_iff_lt_or_eq.1 hs with h1 | rfl
      · have := ih2 s h1 hK
        rcases h.2 with h3 | h3 <;> omega
      · exact Nat.le_refl _
    · rename_i h
      refine ⟨ih1, fun s hs hK => ?_⟩
      rcases Nat.lt_succ_iff_lt_or_eq.1 hs with h1 | rfl
      · exact ih2 s h1 hK
      · rcases Nat.lt_or_ge (cnt its.length s) (cnt its.length (bestTo its K s)) with h2 | h2
        · exact absurd ⟨hK, .inl h2⟩ h
        · exact h2
/-- what least tells: none, if a filling agrees; else a set of which no filling agrees, and none with fewer items does so -/
theorem least_spec {p : Prob} (hv : validP p = true) (of : List Int → Bool) :
    (leastO p of = none ∧ ∃ f ∈ agr p, of f = true) ∨
    ((∀ f ∈ agr p, of f = false) ∧ ∃ b, b < 2 ^ (items p).length ∧ leastO p of = some (listed (items p) b) ∧ (∀ f ∈ agr (onlyP p (listed (items p) b)), of f = false) ∧
      ∀ s, s < 2 ^ (items p).length → (∀ f ∈ agr (onlyP p (listed (items p) s)), of f = false) → (listed (items p) b).length ≤ (listed (items p) s).length) := by
  have hfl : 2 ^ (items p).length - 1 < 2 ^ (items p).length := by have := Nat.two_pow_pos (items p).length; omega
  have no : ∀ s, s < 2 ^ (items p).length → (keptK p of s = false ↔ ∀ f ∈ agr (onlyP p (listed (items p) s)), of f = false) := fun s hs => by
    rw [← Bool.not_eq_true, kept_iff hv of hs]
    constructor
    · intro h f hf
      cases ho : of f
      · rfl
      · exact absurd ⟨f, hf, ho⟩ h
    · rintro h ⟨f, hf, ho⟩
      rw [h f hf] at ho; cases ho
  cases hK : keptK p of (2 ^ (items p).length - 1)
  · right
    obtain ⟨h1, h2⟩ := best_spec (items p) (keptK p of) hK (2 ^ (items p).length)
    have hb := bestTo_lt (items p) (keptK p of) _ (Nat.le_refl _)
    refine ⟨by have := (no _ hfl).1 hK; rw [only_full hv] at this; exact this, _, hb, by unfold leastO; rw [hK]; rfl, (no _ hb).1 h1, fun s hs h => ?_⟩
    rw [listed_len, listed_len]
    exact h2 s hs ((no s hs).2 h)
  · left
    refine ⟨by unfold leastO; rw [if_pos hK], ?_⟩
    have := (kept_iff hv of hfl).1 hK
    rw [only_full hv] at this
    exact this
end Go.Proofs.Ytmpkbolabdmkkaa
