/- TREES THAT TELL OF ALL FILLINGS, in plain Lean: what a lawful tree tells is what agrees. -/
import Derived.Test.YtmpkbolabdmkkaaZa
namespace Go.Proofs.Ytmpkbolabdmkkaa

/-- a node of a survey -/
inductive Nd where
  | mk (kind index : Int) (kids : List Nd)
instance : Inhabited Nd := ⟨.mk 0 0 []⟩
def Nd.kind : Nd → Int | .mk k _ _ => k
def Nd.index : Nd → Int | .mk _ i _ => i
def Nd.kids : Nd → List Nd | .mk _ _ l => l

/-- an option that the first panes leave -/
def leftB (c : List Int) (i k : Nat) : Bool := decide (c.length ≤ i) || nth c i == (k : Int)
/-- the i-th pane of a rule -/
def paneAt (r : Rl) (i : Nat) : Nat := (nth r.panes i).toNat
def hitL (r : Rl) (c : List Int) (i : Nat) : Bool := decide (∃ k, k < (nth r.hits i).length ∧ leftB c (paneAt r i) k = true ∧ nth (nth r.hits i) k = true)
def missL (r : Rl) (c : List Int) (i : Nat) : Bool := decide (∃ k, k < (nth r.hits i).length ∧ leftB c (paneAt r i) k = true ∧ nth (nth r.hits i) k = false)
def mostL (r : Rl) (c : List Int) : Nat → Int
  | 0 => 0
  | k + 1 => if hitL r c k = true then mostL r c k + 1 else mostL r c k
def leastL (r : Rl) (c : List Int) : Nat → Int
  | 0 => 0
  | k + 1 => if missL r c k = true then leastL r c k else leastL r c k + 1
theorem mostL_bd (r : Rl) (c : List Int) : ∀ k : Nat, 0 ≤ mostL r c k ∧ mostL r c k ≤ k
  | 0 => ⟨Int.le_refl _, Int.le_refl _⟩
  | k + 1 => by have := mostL_bd r c k; unfold mostL; split <;> omega
theorem leastL_bd (r : Rl) (c : List Int) : ∀ k : Nat, 0 ≤ leastL r c k ∧ leastL r c k ≤ k
  | 0 => ⟨Int.le_refl _, Int.le_refl _⟩
  | k + 1 => by have := leastL_bd r c k; unfold leastL; split <;> omega
/-- the first panes leave a pair that is allowed -/
def pairL (r : Rl) (c : List Int) : Bool := decide (∃ i, i < r.ok.length ∧ ∃ k, k < (nth r.ok i).length ∧ leftB c (paneAt r 0) i = true ∧ leftB c (paneAt r 1) k = true ∧ nth (nth r.ok i) k = true)
/-- no filling with these first options keeps the rule -/
def brokenB (r : Rl) (c : List Int) : Bool := if r.kind = 2 then !pairL r c else decide (min (mostL r c r.panes.length) r.hi < max (leastL r c r.panes.length) r.lo)
/-- the first pane with the piece of the last one -/
def twinTo (p : Prob) (c : List Int) (i : Nat) : Bool := decide (0 < pieceAt p c i ∧ pieceAt p c i = pieceAt p c (c.length - 1))
def twinO (p : Prob) (c : List Int) : Option Nat := (List.range (c.length - 1)).find? (twinTo p c)
def brokenO (p : Prob) (c : List Int) : Option Nat := (List.range p.rules.length).find? fun i => brokenB (nth p.rules i) c

/-- a leaf is lawful -/
def leafB (p : Prob) (kd ix : Int) (c : List Int) : Bool :=
  if kd = 2 then decide (c.length = p.panes.length ∧ ix = 0) && agreesB p c
  else if kd = 3 then decide (0 < c.length) && wi ix 0 ((c.length : Int) - 2) && decide (0 < pieceAt p c (c.length - 1) ∧ pieceAt p c ix.toNat = pieceAt p c (c.length - 1))
  else if kd = 4 then wi ix 0 ((p.rules.length : Int) - 1) && brokenB (nth p.rules ix.toNat) c
  else false

mutual
def szN : Nd → Nat
  | .mk _ _ ks => 1 + szL ks
def szL : List Nd → Nat
  | [] => 0
  | n :: ks => szN n + szL ks
end
mutual
/-- a tree is lawful below some first options -/
def okN (p : Prob) : Nd → List Int → Bool
  | .mk kd ix ks, c => if kd = 1 then decide (ix = c.length ∧ c.length < p.panes.length ∧ ks.length = (nth p.opts c.length).length) && okL p ks c 0 else decide (ks.length = 0) && leafB p kd ix c
def okL (p : Prob) : List Nd → List Int → Nat → Bool
  | [], _, _ => true
  | n :: ks, c, o => okN p n (c ++ [(o : Int)]) && okL p ks c (o + 1)
end
mutual
/-- the fillings that a tree tells -/
def agN : Nd → List Int → List (List Int)
  | .mk kd _ ks, c => if kd = 1 then agL ks c 0 else if kd = 2 then [c] else []
def agL : List Nd → List Int → Nat → List (List Int)
  | [], _, _ => []
  | n :: ks, c, o => agN n (c ++ [(o : Int)]) ++ agL ks c (o + 1)
end

/-- the fillings that go on from some first options, m panes further -/
def exts (p : Prob) : Nat → List Int → List (List Int)
  | 0, c => [c]
  | m + 1, c => (List.range (dim p c.length)).flatMap fun o : Nat => exts p m (c ++ [(o : Int)])
theorem range_mul {α : Type} (b : Nat) (g : Nat → α) : ∀ a, (List.range (a * b)).map g = (List.range a).flatMap fun i => (List.range b).map fun j => g (i * b + j)
  | 0 => by simp
  | a + 1 => by
    rw [Nat.succ_mul, List.range_add, List.map_append, range_mul b g a, List.range_succ, List.flatMap_append]
    simp [List.map_map, Function.comp_def]
theorem level_step (p : Prob) (k : Nat) (h : 0 < dim p k) : (List.range (prodTo p (k + 1))).map (unr p (k + 1)) = ((List.range (prodTo p k)).map (unr p k)).flatMap fun f => (List.range (dim p k)).map fun o : Nat => f ++ [(o : Int)] := by
  rw [prodTo_succ, range_mul, List.flatMap_map]
  congr 1
  funext i
  apply List.map_congr_left
  intro j hj
  have hj := List.mem_range.1 hj
  rw [unr_succ, Nat.add_comm, Nat.add_mul_div_right _ _ h, Nat.div_eq_of_lt hj, Nat.zero_add, Nat.add_mul_mod_self_right, Nat.mod_eq_of_lt hj]
theorem flatMap_cong {α β : Type} {g h : α → List β} : ∀ {l : List α}, (∀ x ∈ l, g x = h x) → l.flatMap g = l.flatMap h
  | [], _ => rfl
  | x :: l, H => by rw [List.flatMap_cons, List.flatMap_cons, H x (by simp), flatMap_cong (l := l) fun y hy => H y (by simp [hy])]
theorem exts_levels (p : Prob) (hd : ∀ i, i < p.opts.length → 0 < dim p i) : ∀ k m, k + m = p.opts.length → ((List.range (prodTo p k)).map (unr p k)).flatMap (exts p m) = fills p
  | k, 0, h => by
    obtain rfl : k = p.opts.length := by omega
    simp [exts, fills, total, fill, List.flatMap_singleton']
  | k, m + 1, h => by
    rw [← exts_levels p hd (k + 1) m (by omega), level_step p k (hd k (by omega)), List.flatMap_assoc]
    have : ∀ f ∈ (List.range (prodTo p k)).map (unr p k), exts p (m + 1) f = ((List.range (dim p k)).map fun o : Nat => f ++ [(o : Int)]).flatMap (exts p m) := fun f hf => by
      obtain ⟨r, _, rfl⟩ := List.mem_map.1 hf
      show (List.range (dim p (unr p k r).length)).flatMap _ = _
      rw [unr_len, List.flatMap_map]
    rw [flatMap_cong this]
theorem exts_fills {p : Prob} (hv : validP p = true) : exts p p.opts.length [] = fills p := by
  have h := exts_levels p (fun i hi => (valid_dim hv hi).1) 0 p.opts.length (by omega)
  rw [← h]
  simp [prodTo, unr]

/-- what goes on from c: fillings that begin with c -/
theorem exts_mem (p : Prob) : ∀ (m : Nat) (c : List Int), c.length + m = p.opts.length → (∀ i, i < c.length → 0 ≤ nth c i ∧ nth c i < (nth p.opts i).length) → ∀ f ∈ exts p m c, f.length = p.opts.length ∧ (∀ i, i < f.length → 0 ≤ nth f i ∧ nth f i < (nth p.opts i).length) ∧ ∀ i, i < c.length → nth f i = nth c i
  | 0, c, h, hc, f, hf => by
    obtain rfl : f = c := by simpa [exts] using hf
    exact ⟨by omega, hc, fun _ _ => rfl⟩
  | m + 1, c, h, hc, f, hf => by
    obtain ⟨o, ho, hf⟩ := List.mem_flatMap.1 (show f ∈ (List.range (dim p c.length)).flatMap fun o : Nat => exts p m (c ++ [(o : Int)]) from hf)
    have ho := List.mem_range.1 ho
    unfold dim at ho
    obtain ⟨h1, h2, h3⟩ := exts_mem p m (c ++ [(o : Int)]) (by simp; omega) (fun i hi => by
      rw [List.length_append, List.length_singleton] at hi
      rcases Nat.lt_succ_iff_lt_or_eq.1 hi with h1 | rfl
      · rw [nth_append_left h1]; exact hc i h1
      · rw [nth_snoc]; omega) f hf
    exact ⟨h1, h2, fun i hi => by rw [h3 i (by simp; omega), nth_append_left hi]⟩

theorem left_of {c f : List Int} (h : ∀ i, i < c.length → nth f i = nth c i) {i : Nat} (h0 : 0 ≤ nth f i) : leftB c i (nth f i).toNat = true := by
  unfold leftB
  rcases Nat.lt_or_ge i c.length with h1 | h1
  · rw [← h i h1]; simp; omega
  · simp [h1]
theorem most_ge {r : Rl} {c f : List Int} (hl : ∀ i, i < r.panes.length → leftB c (paneAt r i) (chosenAt r f i).toNat = true ∧ (chosenAt r f i).toNat < (nth r.hits i).length) : ∀ k, k ≤ r.panes.length → hitsTo r f k ≤ mostL r c k ∧ leastL r c k ≤ hitsTo r f k
  | 0, _ => ⟨Int.le_refl _, Int.le_refl _⟩
  | k + 1, hk => by
    obtain ⟨h1, h2⟩ := most_ge hl k (by omega)
    obtain ⟨h3, h4⟩ := hl k (by omega)
    unfold mostL leastL hitsTo
    cases hh : hitAt r f k
    · have hm : missL r c k = true := by unfold missL; rw [decide_eq_true_iff]; exact ⟨_, h4, h3, hh⟩
      rw [if_neg (by simp), if_pos hm]
      split <;> omega
    · have hm : hitL r c k = true := by unfold hitL; rw [decide_eq_true_iff]; exact ⟨_, h4, h3, hh⟩
      rw [if_pos rfl, if_pos hm]
      split <;> omega
/-- a broken rule is kept by no filling that goes on -/
theorem broken_sound {p : Prob} (hv : validP p = true) {j : Nat} (hj : j < p.rules.length) {c f : List Int} (hb : brokenB (nth p.rules j) c = true) (hf : f.length = p.opts.length) (hfo : ∀ i, i < f.length → 0 ≤ nth f i ∧ nth f i < (nth p.opts i).length) (hcf : ∀ i, i < c.length → nth f i = nth c i) : keepsB (nth p.rules j) f = false := by
  have hlen := valid_len hv
  unfold brokenB at hb
  rcases ruleOK_iff.1 (valid_rule hv hj) with ⟨hk, hc⟩ | ⟨hk, hc⟩
  · obtain ⟨h1, _, h3⟩ := cnt_at hc
    rw [if_neg (by omega), decide_eq_true_iff] at hb
    have hm := most_ge (r := nth p.rules j) (c := c) (f := f) (fun i hi => by
      obtain ⟨a1, a2, _, a4⟩ := h3 i hi
      have hi2 : (nth (nth p.rules j).panes i).toNat < f.length := by omega
      have h5 := hfo _ hi2
      refine ⟨left_of hcf h5.1, ?_⟩
      rw [a4]; unfold chosenAt; omega) _ (Nat.le_refl _)
    unfold keepsB
    rw [if_neg (by omega), wi_no]
    omega
  · obtain ⟨_, _, _, _, h5, h6, _, h8, h9⟩ := pair_at hc
    rw [if_pos hk] at hb
    unfold keepsB
    rw [if_pos hk]
    have g0 := hfo (nth (nth p.rules j).panes 0).toNat (by omega)
    have g1 := hfo (nth (nth p.rules j).panes 1).toNat (by omega)
    cases ha : nth (nth (nth p.rules j).ok (chosenAt (nth p.rules j) f 0).toNat) (chosenAt (nth p.rules j) f 1).toNat
    · rfl
    · have : pairL (nth p.rules j) c = true := by
        unfold pairL
        rw [decide_eq_true_iff]
        have e0 : (chosenAt (nth p.rules j) f 0).toNat < (nth p.rules j).ok.length := by rw [h8]; unfold chosenAt; omega
        exact ⟨_, e0, (chosenAt (nth p.rules j) f 1).toNat, by rw [h9 _ e0]; have : chosenAt (nth p.rules j) f 1 = nth f (nth (nth p.rules j).panes 1).toNat := rfl; omega, left_of hcf g0.1, left_of hcf g1.1, ha⟩
      rw [this] at hb; cases hb
/-- a piece that is used twice -/
theorem twin_sound {p : Prob} {c f : List Int} {i : Nat} (hi : i < c.length - 1) (h0 : 0 < pieceAt p c (c.length - 1)) (h1 : pieceAt p c i = pieceAt p c (c.length - 1)) (hle : c.length ≤ f.length) (hcf : ∀ i, i < c.length → nth f i = nth c i) : soundB p f = false := by
  have e : ∀ j, j < c.length → pieceAt p f j = pieceAt p c j := fun j hj => by unfold pieceAt; rw [hcf j hj]
  refine soundB_bad (i := c.length - 1) (k := i) (by omega) hi ?_ ?_
  · rw [e _ (by omega)]; exact h0
  · rw [e _ (by omega), e _ (by omega)]; exact h1.symm
theorem leaf_sound {p : Prob} (hv : validP p = true) {kd ix : Int} {c : List Int} {m : Nat} (hm : c.length + m = p.opts.length) (hc : ∀ i, i < c.length → 0 ≤ nth c i ∧ nth c i < (nth p.opts i).length) (h : leafB p kd ix c = true) : (exts p m c).filter (agreesB p) = if kd = 2 then [c] else [] := by
  have hlen := valid_len hv
  have hmem := exts_mem p m c hm hc
  unfold leafB at h
  by_cases h2 : kd = 2
  · rw [if_pos h2, Bool.and_eq_true, decide_eq_true_iff] at h
    obtain rfl : m = 0 := by omega
    rw [if_pos h2]
    simp [exts, h.2]
  · rw [if_neg h2] at h ⊢
    rw [List.filter_eq_nil_iff]
    intro f hf
    obtain ⟨f1, f2, f3⟩ := hmem f hf
    by_cases h3 : kd = 3
    · rw [if_pos h3, Bool.and_eq_true, Bool.and_eq_true, decide_eq_true_iff, decide_eq_true_iff] at h
      have hw := wi_iff.1 h.1.2
      have := twin_sound (p := p) (c := c) (f := f) (i := ix.toNat) (by omega) h.2.1 h.2.2 (by omega) f3
      unfold agreesB; rw [this]; simp
    · rw [if_neg h3] at h
      by_cases h4 : kd = 4
      · rw [if_pos h4, Bool.and_eq_true] at h
        have hw := wi_iff.1 h.1
        have hj : ix.toNat < p.rules.length := by omega
        rw [agreesB_bad hj (broken_sound hv hj h.2 f1 f2 f3)]; simp
      · rw [if_neg h4] at h; cases h

mutual
/-- WHAT A LAWFUL TREE TELLS IS WHAT AGREES -/
theorem tree_sound {p : Prob} (hv : validP p = true) : ∀ (n : Nd) (c : List Int) (m : Nat), c.length + m = p.opts.length → (∀ i, i < c.length → 0 ≤ nth c i ∧ nth c i < (nth p.opts i).length) → okN p n c = true → agN n c = (exts p m c).filter (agreesB p)
  | .mk kd ix ks, c, m, hm, hc, h => by
    unfold okN at h
    unfold agN
    by_cases h1 : kd = 1
    · rw [if_pos h1, Bool.and_eq_true, decide_eq_true_iff] at h
      rw [if_pos h1]
      obtain ⟨⟨_, h2, h3⟩, h4⟩ := h
      have hlen := valid_len hv
      cases m with
      | zero => omega
      | succ m =>
        rw [trees_sound hv ks c m 0 (by omega) hc (by omega) h4]
        show _ = ((List.range (dim p c.length)).flatMap _).filter _
        rw [show ks.length = dim p c.length from h3]
        simp [List.filter_flatMap]
    · rw [if_neg h1, Bool.and_eq_true] at h
      rw [if_neg h1, leaf_sound hv hm hc h.2]
theorem trees_sound {p : Prob} (hv : validP p = true) : ∀ (ks : List Nd) (c : List Int) (m o : Nat), c.length + m + 1 = p.opts.length → (∀ i, i < c.length → 0 ≤ nth c i ∧ nth c i < (nth p.opts i).length) → o + ks.length ≤ (nth p.opts c.length).length → okL p ks c o = true →
    agL ks c o = (List.range ks.length).flatMap fun k => (exts p m (c ++ [((o + k : Nat) : Int)])).filter (agreesB p)
  | [], _, _, _, _, _, _, _ => by simp [agL]
  | n :: ks, c, m, o, hm, hc, ho, h => by
    unfold okL at h
    rw [Bool.and_eq_true] at h
    rw [List.length_cons] at ho
    have hn : n.kids.length = n.kids.length := rfl
    unfold agL
    rw [tree_sound hv n (c ++ [(o : Int)]) m (by simp; omega) (fun i hi => by
      rw [List.length_append, List.length_singleton] at hi
      rcases Nat.lt_succ_iff_lt_or_eq.1 hi with h1 | rfl
      · rw [nth_append_left h1]; exact hc i h1
      · rw [nth_snoc]; omega) h.1, trees_sound hv ks c m (o + 1) hm hc (by omega) h.2]
    rw [List.length_cons, List.range_succ_eq_map, List.flatMap_cons, List.flatMap_map, Nat.add_zero]
    congr 2
    funext k
    rw [show o + 1 + k = o + k.succ by omega]
end
theorem tree_agr {p : Prob} (hv : validP p = true) {n : Nd} (h : okN p n [] = true) : agN n [] = agr p := by
  rw [tree_sound hv n [] p.opts.length (by simp) (fun i hi => absurd hi (Nat.not_lt_zero _)) h, exts_fills hv]; rfl
end Go.Proofs.Ytmpkbolabdmkkaa
