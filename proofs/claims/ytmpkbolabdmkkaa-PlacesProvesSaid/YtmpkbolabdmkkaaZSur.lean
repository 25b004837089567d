/- THE TREE THAT IS MADE, in plain Lean: it is lawful, and not large. -/
import Derived.Test.YtmpkbolabdmkkaaZNod
namespace Go.Proofs.Ytmpkbolabdmkkaa

theorem szL_append : ∀ (a b : List Nd), szL (a ++ b) = szL a + szL b
  | [], b => by simp [szL]
  | n :: a, b => by simp only [List.cons_append, szL]; rw [szL_append a b]; omega

/-- the tree below some first options, m panes further -/
def surv (p : Prob) : Nat → List Int → Nd
  | m, c => match twinO p c with
    | some i => .mk 3 i []
    | none => match brokenO p c with
      | some i => .mk 4 i []
      | none => match m with
        | 0 => .mk 2 0 []
        | m + 1 => .mk 1 c.length ((List.range (nth p.opts c.length).length).map fun k : Nat => surv p m (c ++ [(k : Int)]))
/-- the first k kids of it -/
def survTo (p : Prob) (m : Nat) (c : List Int) (k : Nat) : List Nd := (List.range k).map fun k : Nat => surv p m (c ++ [(k : Int)])
theorem survTo_succ (p : Prob) (m : Nat) (c : List Int) (k : Nat) : survTo p m c (k + 1) = survTo p m c k ++ [surv p m (c ++ [(k : Int)])] := by simp [survTo, List.range_succ]
theorem survTo_len (p : Prob) (m : Nat) (c : List Int) (k : Nat) : (survTo p m c k).length = k := by simp [survTo]
theorem surv_twin {p : Prob} {m i : Nat} {c : List Int} (h : twinO p c = some i) : surv p m c = .mk 3 i [] := by unfold surv; rw [h]
theorem surv_rule {p : Prob} {m i : Nat} {c : List Int} (h : twinO p c = none) (h2 : brokenO p c = some i) : surv p m c = .mk 4 i [] := by unfold surv; rw [h, h2]
theorem surv_leaf {p : Prob} {c : List Int} (h : twinO p c = none) (h2 : brokenO p c = none) : surv p 0 c = .mk 2 0 [] := by unfold surv; rw [h, h2]
theorem surv_branch {p : Prob} {m : Nat} {c : List Int} (h : twinO p c = none) (h2 : brokenO p c = none) : surv p (m + 1) c = .mk 1 c.length (survTo p m c (nth p.opts c.length).length) := by
  rw [surv, h, h2]; rfl

/-- the product of the numbers of options from pane i on -/
def restP (p : Prob) : Nat → Nat → Nat
  | 0, _ => 1
  | m + 1, i => dim p i * restP p m (i + 1)
theorem rest_prod (p : Prob) : ∀ m i, prodTo p i * restP p m i = prodTo p (i + m)
  | 0, i => by simp [restP]
  | m + 1, i => by
    show prodTo p i * (dim p i * restP p m (i + 1)) = _
    rw [← Nat.mul_assoc, ← prodTo_succ, rest_prod p m (i + 1)]
    congr 1; omega
theorem rest_pos (p : Prob) (hd : ∀ i, i < p.opts.length → 0 < dim p i) : ∀ m i, i + m = p.opts.length → 0 < restP p m i
  | 0, _, _ => Nat.one_pos
  | m + 1, i, h => Nat.mul_pos (hd i (by omega)) (rest_pos p hd m (i + 1) (by omega))
theorem szL_le {N : Nat} : ∀ (l : List Nd), (∀ n ∈ l, szN n ≤ N) → szL l ≤ l.length * N
  | [], _ => by simp [szL]
  | n :: l, h => by
    have h1 := h n (by simp)
    have h2 := szL_le l fun x hx => h x (by simp [hx])
    simp only [szL, List.length_cons, Nat.succ_mul]; omega
theorem surv_size (p : Prob) (hd : ∀ i, i < p.opts.length → 0 < dim p i) : ∀ (m : Nat) (c : List Int), c.length + m = p.opts.length → szN (surv p m c) ≤ 1 + m * restP p m c.length
  | m, c, h => by
    cases h1 : twinO p c with
    | some i => rw [surv_twin h1]; simp [szN, szL]
    | none =>
      cases h2 : brokenO p c with
      | some i => rw [surv_rule h1 h2]; simp [szN, szL]
      | none =>
        cases m with
        | zero => rw [surv_leaf h1 h2]; simp [szN, szL]
        | succ m =>
          rw [surv_branch h1 h2]
          simp only [szN]
          have hk := szL_le (N := 1 + m * restP p m (c.length + 1)) (survTo p m c (nth p.opts c.length).length) (fun n hn => by
            obtain ⟨k, _, rfl⟩ := List.mem_map.1 hn
            have := surv_size p hd m (c ++ [(k : Int)]) (by simp; omega)
            simpa using this)
          rw [survTo_len] at hk
          have hr := rest_pos p hd m (c.length + 1) (by omega)
          show 1 + szL _ ≤ 1 + (m + 1) * (dim p c.length * restP p m (c.length + 1))
          have e : (nth p.opts c.length).length = dim p c.length := rfl
          rw [e] at hk ⊢
          generalize dim p c.length = d at *
          generalize restP p m (c.length + 1) = R at *
          have : d * (1 + m * R) ≤ (m + 1) * (d * R) := by
            rw [Nat.mul_add, Nat.mul_one, Nat.succ_mul]
            have h3 : d ≤ d * R := Nat.le_mul_of_pos_right d hr
            have h4 : d * (m * R) = m * (d * R) := by rw [Nat.mul_left_comm]
            omega
          omega
theorem surv_small {p : Prob} (hv : validP p = true) (h : total p ≤ 300) : szN (surv p p.opts.length []) ≤ 19201 := by
  have h1 := surv_size p (fun i hi => (valid_dim hv hi).1) p.opts.length [] (by simp)
  have h2 := rest_prod p p.opts.length 0
  have h3 := valid_pane64 hv
  have h4 := valid_len hv
  rw [Nat.zero_add] at h2
  have h5 : restP p p.opts.length 0 = total p := by rw [show total p = prodTo p p.opts.length from rfl, ← h2]; simp [prodTo]
  rw [List.length_nil, h5] at h1
  have : p.opts.length * total p ≤ 64 * 300 := Nat.mul_le_mul (by omega) h
  omega

theorem left_full {c : List Int} {i k : Nat} (hi : i < c.length) (h0 : 0 ≤ nth c i) : leftB c i k = true ↔ k = (nth c i).toNat := by
  unfold leftB
  rw [Bool.or_eq_true, decide_eq_true_iff, beq_iff_eq]
  omega
theorem most_full {r : Rl} {c : List Int} (hl : ∀ i, i < r.panes.length → paneAt r i < c.length ∧ 0 ≤ nth c (paneAt r i) ∧ (chosenAt r c i).toNat < (nth r.hits i).length) : ∀ k, k ≤ r.panes.length → mostL r c k = hitsTo r c k ∧ leastL r c k = hitsTo r c k
  | 0, _ => ⟨rfl, rfl⟩
  | k + 1, hk => by
    obtain ⟨h1, h2⟩ := most_full hl k (by omega)
    obtain ⟨h3, h4, h5⟩ := hl k (by omega)
    have e : chosenAt r c k = nth c (paneAt r k) := rfl
    have hh : ∀ b, (∃ j, j < (nth r.hits k).length ∧ leftB c (paneAt r k) j = true ∧ nth (nth r.hits k) j = b) ↔ hitAt r c k = b := fun b => by
      constructor
      · rintro ⟨j, _, h6, h7⟩
        obtain rfl := (left_full h3 h4).1 h6
        exact h7
      · intro h; exact ⟨_, h5, (left_full h3 h4).2 (by rw [e]), h⟩
    unfold mostL leastL hitsTo hitL missL
    cases hb : hitAt r c k
    · rw [decide_eq_false (fun h => by rw [(hh true).1 h] at hb; cases hb), decide_eq_true ((hh false).2 hb)]
      simp [h1, h2]
    · rw [decide_eq_true ((hh true).2 hb), decide_eq_false (fun h => by rw [(hh false).1 h] at hb; cases hb)]
      simp [h1, h2]
theorem broken_full {p : Prob} (hv : validP p = true) {j : Nat} (hj : j < p.rules.length) {c : List Int} (hc : c.length = p.opts.length) (hco : ∀ i, i < c.length → 0 ≤ nth c i ∧ nth c i < (nth p.opts i).length) : brokenB (nth p.rules j) c = !keepsB (nth p.rules j) c := by
  have hlen := valid_len hv
  cases hb : brokenB (nth p.rules j) c
  case true => rw [broken_sound hv hj hb hc hco (fun _ _ => rfl)]; rfl
  unfold brokenB at hb
  unfold keepsB
  rcases ruleOK_iff.1 (valid_rule hv hj) with ⟨hk, hr⟩ | ⟨hk, hr⟩
  · obtain ⟨h1, _, h3⟩ := cnt_at hr
    rw [if_neg (by omega), decide_eq_false_iff_not] at hb
    rw [if_neg (by omega)]
    have hm := most_full (r := nth p.rules j) (c := c) (fun i hi => by
      obtain ⟨a1, a2, _, a4⟩ := h3 i hi
      have hi2 : (nth (nth p.rules j).panes i).toNat < c.length := by omega
      have h5 := hco _ hi2
      exact ⟨hi2, h5.1, by rw [a4]; unfold chosenAt; omega⟩) _ (Nat.le_refl _)
    rw [hm.1, hm.2] at hb
    have : wi (hitsTo (nth p.rules j) c (nth p.rules j).panes.length) (nth p.rules j).lo (nth p.rules j).hi = true := wi_iff.2 (by omega)
    rw [this]; rfl
  · obtain ⟨_, _, _, _, h5, h6, _, h8, h9⟩ := pair_at hr
    rw [if_pos hk] at hb
    rw [if_pos hk]
    have hp : pairL (nth p.rules j) c = true := by simpa using hb
    unfold pairL at hp
    rw [decide_eq_true_iff] at hp
    obtain ⟨i, _, k, _, l1, l2, h⟩ := hp
    have q0 : paneAt (nth p.rules j) 0 < c.length := by unfold paneAt; omega
    have q1 : paneAt (nth p.rules j) 1 < c.length := by unfold paneAt; omega
    obtain rfl := (left_full q0 (hco _ q0).1).1 l1
    obtain rfl := (left_full q1 (hco _ q1).1).1 l2
    have e0 : chosenAt (nth p.rules j) c 0 = nth c (paneAt (nth p.rules j) 0) := rfl
    have e1 : chosenAt (nth p.rules j) c 1 = nth c (paneAt (nth p.rules j) 1) := rfl
    rw [e0, e1, h]; rfl
theorem twinO_none {p : Prob} {c : List Int} (h : twinO p c = none) {i : Nat} (hi : i < c.length - 1) : ¬ (0 < pieceAt p c i ∧ pieceAt p c i = pieceAt p c (c.length - 1)) := by
  have := List.find?_eq_none.1 h i (List.mem_range.2 hi)
  unfold twinTo at this
  simpa using this
/-- no piece twice, so far -/
def noTwin (p : Prob) (c : List Int) : Prop := ∀ i, i < c.length → ∀ k, k < i → ¬ (0 < pieceAt p c i ∧ pieceAt p c i = pieceAt p c k)
theorem noTwin_step {p : Prob} {c : List Int} {k : Nat} (h : noTwin p c) (h2 : twinO p (c ++ [(k : Int)]) = none) : noTwin p (c ++ [(k : Int)]) := by
  intro i hi j hj
  rw [List.length_append, List.length_singleton] at hi
  have e : ∀ i, i < c.length → pieceAt p (c ++ [(k : Int)]) i = pieceAt p c i := fun i hi => by unfold pieceAt; rw [nth_append_left hi]
  rcases Nat.lt_succ_iff_lt_or_eq.1 hi with h3 | rfl
  · rw [e i h3, e j (by omega)]; exact h i h3 j hj
  · have := twinO_none h2 (i := j) (by simp; omega)
    simp only [List.length_append, List.length_singleton, Nat.add_sub_cancel] at this
    rintro ⟨h4, h5⟩
    exact this ⟨by rw [← h5]; exact h4, h5.symm⟩
theorem brokenO_none {p : Prob} {c : List Int} (h : brokenO p c = none) {i : Nat} (hi : i < p.rules.length) : brokenB (nth p.rules i) c = false := by
  have := List.find?_eq_none.1 h i (List.mem_range.2 hi)
  simpa using this

theorem okL_map {p : Prob} {c : List Int} {g : Nat → Nd} : ∀ (n o : Nat), (∀ k, k < n → okN p (g k) (c ++ [((o + k : Nat) : Int)]) = true) → okL p ((List.range n).map g) c o = true
  | 0, _, _ => by simp [okL]
  | n + 1, o, h => by
    rw [List.range_succ_eq_map, List.map_cons, List.map_map, okL, Bool.and_eq_true]
    refine ⟨by have := h 0 (by omega); simpa using this, ?_⟩
    exact okL_map (g := g ∘ Nat.succ) n (o + 1) fun k hk => by
      have := h (k + 1) (by omega)
      rw [show o + (k + 1) = o + 1 + k by omega] at this
      exact this
/-- the tree that is made is lawful -/
theorem surv_ok {p : Prob} (hv : validP p = true) : ∀ (m : Nat) (c : List Int), c.length + m = p.opts.length → (∀ i, i < c.length → 0 ≤ nth c i ∧ nth c i < (nth p.opts i).length) → (∀ k, noTwin p (c.take k) ∨ c.length ≤ k) → okN p (surv p m c) c = true
  | m, c, h, hc, ht => by
    have hlen := valid_len hv
    cases h1 : twinO p c with
    | some i =>
      rw [surv_twin h1]
      have hm := List.mem_range.1 (List.mem_of_find?_eq_some h1)
      have hp := List.find?_some h1
      unfold twinTo at hp
      rw [decide_eq_true_iff] at hp
      simp only [okN, leafB]
      rw [if_neg (by decide), if_neg (by decide), if_pos trivial]
      simp only [List.length_nil, decide_true, Bool.true_and, Bool.and_eq_true, decide_eq_true_iff, wi_iff, Int.toNat_natCast]
      refine ⟨⟨by omega, by omega⟩, by rw [← hp.2]; exact hp.1, hp.2⟩
    | none =>
      have hnt : noTwin p c := by
        rcases List.eq_nil_or_concat c with rfl | ⟨c', x, rfl⟩
        · intro i hi; exact absurd hi (Nat.not_lt_zero _)
        · rw [List.concat_eq_append] at *
          have h0 := ht c'.length
          rw [List.take_left' rfl] at h0
          have hq : noTwin p c' := h0.resolve_right (by simp)
          obtain ⟨k, hk⟩ : ∃ k : Nat, x = (k : Int) := by
            have := (hc c'.length (by simp)).1
            rw [nth_snoc] at this
            exact ⟨x.toNat, by omega⟩
          subst hk
          exact noTwin_step hq h1
      cases h2 : brokenO p c with
      | some i =>
        rw [surv_rule h1 h2]
        have hm := List.mem_range.1 (List.mem_of_find?_eq_some h2)
        have hp := List.find?_some h2
        simp only [okN, leafB]
        rw [if_neg (by decide), if_neg (by decide), if_neg (by decide), if_pos trivial]
        simp only [List.length_nil, decide_true, Bool.true_and, Bool.and_eq_true, wi_iff, Int.toNat_natCast]
        exact ⟨by omega, hp⟩
      | none =>
        cases m with
        | zero =>
          rw [surv_leaf h1 h2]
          simp only [okN, leafB]
          rw [if_neg (by decide), if_pos trivial]
          simp only [List.length_nil, decide_true, Bool.true_and, Bool.and_eq_true, decide_eq_true_iff]
          refine ⟨⟨by omega, trivial⟩, ?_⟩
          rw [agreesB_rest fun i hi => by
            have h3 := brokenO_none h2 hi
            rw [broken_full hv hi (by omega) hc] at h3
            simpa using h3]
          exact soundB_yes hnt
        | succ m =>
          rw [surv_branch h1 h2]
          simp only [okN]
          rw [if_pos trivial, Bool.and_eq_true, decide_eq_true_iff]
          refine ⟨⟨trivial, by omega, survTo_len _ _ _ _⟩, okL_map _ _ fun k hk => ?_⟩
          rw [Nat.zero_add]
          refine surv_ok hv m (c ++ [(k : Int)]) (by simp; omega) (fun i hi => ?_) fun j => ?_
          · rw [List.length_append, List.length_singleton] at hi
            rcases Nat.lt_succ_iff_lt_or_eq.1 hi with h3 | rfl
            · rw [nth_append_left h3]; exact hc i h3
            · rw [nth_snoc]; omega
          · rcases Nat.lt_or_ge j (c.length + 1) with h3 | h3
            · rw [List.take_append_of_le_length (by omega)]
              rcases Nat.lt_or_ge j c.length with h4 | h4
              · exact .inl ((ht j).resolve_right (by omega))
              · rw [List.take_of_length_le h4]; exact .inl hnt
            · exact .inr (by simp; omega)
theorem survey_ok {p : Prob} (hv : validP p = true) : okN p (surv p p.opts.length []) [] = true :=
  surv_ok hv _ [] (by simp) (fun i hi => absurd hi (Nat.not_lt_zero _)) fun k => .inr (Nat.zero_le _)
end Go.Proofs.Ytmpkbolabdmkkaa
