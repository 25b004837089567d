/- THE DATA of chapter 7: fillings, what they keep, break and violate; the space. -/
import Derived.Test.YtmpkbolabdmkkaaData
namespace Go.Proofs.Ytmpkbolabdmkkaa

/-- the product as the reference reckons it: it stops growing above 2^50 -/
def rspaceTo (os : List (List Opt)) : Nat → Int
  | 0 => 1
  | k + 1 => if rspaceTo os k ≤ 1125899906842624 then rspaceTo os k * (nth os k).length else rspaceTo os k
def rspace (p : Prob) : Int := rspaceTo p.opts p.opts.length

/-- a list is a filling -/
def fillB (p : Prob) (f : List Int) : Bool := decide (f.length = p.panes.length ∧ ∀ i, i < f.length → wi (nth f i) 0 (((nth p.opts i).length : Int) - 1) = true)
theorem fillB_iff {p : Prob} {f : List Int} : fillB p f = true ↔ f.length = p.panes.length ∧ ∀ i, i < f.length → wi (nth f i) 0 (((nth p.opts i).length : Int) - 1) = true := by
  unfold fillB; rw [decide_eq_true_iff]
theorem fillB_no {p : Prob} {f : List Int} (h : f.length ≠ p.panes.length) : fillB p f = false := by
  rw [← Bool.not_eq_true, fillB_iff]; exact fun h' => h h'.1
theorem fillB_bad {p : Prob} {f : List Int} {i : Nat} (hi : i < f.length) (h : wi (nth f i) 0 (((nth p.opts i).length : Int) - 1) = false) : fillB p f = false := by
  rw [← Bool.not_eq_true, fillB_iff]; intro h'; have := h'.2 i hi; rw [h] at this; cases this

/-- the error of a problem and a filling -/
def wrongC (p : Prob) (f : List Int) : Int := if validP p = true then (if fillB p f = true then 0 else 71) else 70

/-- the piece that a filling lays in pane i -/
def pieceAt (p : Prob) (f : List Int) (i : Nat) : Int := (nth (nth p.opts i) (nth f i).toNat).piece
/-- no piece is used twice -/
def soundB (p : Prob) (f : List Int) : Bool := decide (∀ i, i < f.length → ∀ k, k < i → ¬ (0 < pieceAt p f i ∧ pieceAt p f i = pieceAt p f k))
theorem soundB_bad {p : Prob} {f : List Int} {i k : Nat} (hi : i < f.length) (hk : k < i) (h1 : 0 < pieceAt p f i) (h2 : pieceAt p f i = pieceAt p f k) : soundB p f = false := by
  unfold soundB; rw [decide_eq_false_iff_not]; exact fun h => h i hi k hk ⟨h1, h2⟩
theorem soundB_yes {p : Prob} {f : List Int} (h : ∀ i, i < f.length → ∀ k, k < i → ¬ (0 < pieceAt p f i ∧ pieceAt p f i = pieceAt p f k)) : soundB p f = true := by
  unfold soundB; rw [decide_eq_true_iff]; exact h

/-- the choice of a filling at the i-th pane of a rule -/
def chosenAt (r : Rl) (f : List Int) (i : Nat) : Int := nth f (nth r.panes i).toNat
/-- whether the i-th pane of a rule hits -/
def hitAt (r : Rl) (f : List Int) (i : Nat) : Bool := nth (nth r.hits i) (chosenAt r f i).toNat
def hitsTo (r : Rl) (f : List Int) : Nat → Int
  | 0 => 0
  | k + 1 => if hitAt r f k = true then hitsTo r f k + 1 else hitsTo r f k
theorem hitsTo_bd (r : Rl) (f : List Int) : ∀ k : Nat, 0 ≤ hitsTo r f k ∧ hitsTo r f k ≤ k
  | 0 => ⟨Int.le_refl _, Int.le_refl _⟩
  | k + 1 => by have := hitsTo_bd r f k; unfold hitsTo; split <;> omega
/-- a filling keeps a rule -/
def keepsB (r : Rl) (f : List Int) : Bool := if r.kind = 2 then nth (nth r.ok (chosenAt r f 0).toNat) (chosenAt r f 1).toNat else wi (hitsTo r f r.panes.length) r.lo r.hi

/-- the first k rules that a filling breaks -/
def breaksTo (p : Prob) (f : List Int) : Nat → List Int
  | 0 => []
  | k + 1 => if keepsB (nth p.rules k) f = true then breaksTo p f k else breaksTo p f k ++ [(k : Int)]
theorem breaksTo_len (p : Prob) (f : List Int) : ∀ k, (breaksTo p f k).length ≤ k
  | 0 => Nat.le_refl _
  | k + 1 => by unfold breaksTo; have := breaksTo_len p f k; split <;> simp <;> omega
def breaksL (p : Prob) (f : List Int) : List Int := breaksTo p f p.rules.length

/-- the items of the rules that a filling breaks, each once where they do not decrease -/
def violTo (p : Prob) (f : List Int) : Nat → List Int
  | 0 => []
  | k + 1 => if keepsB (nth p.rules k) f = true ∨ (violTo p f k).getLast? = some (nth p.rules k).item then violTo p f k else violTo p f k ++ [(nth p.rules k).item]
theorem violTo_len (p : Prob) (f : List Int) : ∀ k, (violTo p f k).length ≤ k
  | 0 => Nat.le_refl _
  | k + 1 => by unfold violTo; have := violTo_len p f k; split <;> simp <;> omega
def violL (p : Prob) (f : List Int) : List Int := violTo p f p.rules.length

/-- a filling agrees -/
def agreesB (p : Prob) (f : List Int) : Bool := soundB p f && decide (∀ i, i < p.rules.length → keepsB (nth p.rules i) f = true)

/-- what a valid problem and a filling give the functions that look things up -/
theorem valid_len {p : Prob} (h : validP p = true) : p.opts.length = p.panes.length := (validP_iff.1 h).1.1
theorem valid_rules {p : Prob} (h : validP p = true) : p.rules.length ≤ 256 := (validP_iff.1 h).1.2
theorem valid_pane64 {p : Prob} (h : validP p = true) : p.panes.length ≤ 64 := valid_panes (validP_iff.1 h).2.1
theorem valid_opts {p : Prob} (h : validP p = true) {i : Nat} (hi : i < p.opts.length) : 1 ≤ (nth p.opts i).length ∧ (nth p.opts i).length ≤ 256 := by
  have h1 := (paneOK_iff.1 ((validP_iff.1 h).2.1 i (by rw [← valid_len h]; exact hi))).2.2
  unfold optsOK at h1; rw [decide_eq_true_iff] at h1; exact ⟨h1.1, h1.2.1⟩
theorem valid_rule {p : Prob} (h : validP p = true) {i : Nat} (hi : i < p.rules.length) : ruleOK p (nth p.rules i) = true := (ruleAtOK_iff.1 ((validP_iff.1 h).2.2.1 i hi)).2.2
theorem fill_at {p : Prob} {f : List Int} (h : fillB p f = true) {i : Nat} (hi : i < f.length) : 0 ≤ nth f i ∧ nth f i < (nth p.opts i).length := by
  have := wi_iff.1 ((fillB_iff.1 h).2 i hi); omega
theorem ruleOK_iff {p : Prob} {r : Rl} : ruleOK p r = true ↔ (r.kind = 1 ∧ cntOK p r = true) ∨ (r.kind = 2 ∧ pairOK p r = true) := by
  unfold ruleOK; simp only [Bool.or_eq_true, Bool.and_eq_true, beq_iff_eq]

/-- what a rule that counts gives -/
theorem cnt_at {p : Prob} {r : Rl} (h : cntOK p r = true) : r.hits.length = r.panes.length ∧ r.ok.length = 0 ∧ ∀ i, i < r.panes.length → 0 ≤ nth r.panes i ∧ nth r.panes i < p.panes.length ∧ (0 < i → nth r.panes (i - 1) < nth r.panes i) ∧ (nth r.hits i).length = (nth p.opts (nth r.panes i).toNat).length := by
  unfold cntOK at h; rw [decide_eq_true_iff] at h
  exact ⟨h.1, h.2.1, fun i hi => by have h1 := h.2.2 i hi; have := wi_iff.1 h1.1; exact ⟨this.1, by omega, h1.2.1, h1.2.2⟩⟩
theorem pair_at {p : Prob} {r : Rl} (h : pairOK p r = true) : r.panes.length = 2 ∧ r.hits.length = 0 ∧ r.lo = 0 ∧ r.hi = 0 ∧ (0 ≤ nth r.panes 0 ∧ nth r.panes 0 < p.panes.length) ∧ (0 ≤ nth r.panes 1 ∧ nth r.panes 1 < p.panes.length) ∧ nth r.panes 0 ≠ nth r.panes 1 ∧
    r.ok.length = (nth p.opts (nth r.panes 0).toNat).length ∧ ∀ i, i < r.ok.length → (nth r.ok i).length = (nth p.opts (nth r.panes 1).toNat).length := by
  obtain ⟨⟨h1, h2, h3, h4⟩, h5, h6, h7, h8, h9⟩ := pairOK_iff.1 h
  have := wi_iff.1 h6; have := wi_iff.1 h7
  exact ⟨h1, h2, h3, h4, ⟨by omega, by omega⟩, ⟨by omega, by omega⟩, h5, h8, h9⟩

/-! what the functions hand back that judge a filling -/
theorem wrongC_0 {p : Prob} {f : List Int} (h1 : validP p = true) (h2 : fillB p f = true) : wrongC p f = 0 := by unfold wrongC; rw [if_pos h1, if_pos h2]
theorem wrongC_71 {p : Prob} {f : List Int} (h1 : validP p = true) (h2 : fillB p f = false) : wrongC p f = 71 := by unfold wrongC; rw [if_pos h1, if_neg (by simp [h2])]
theorem wrongC_70 {p : Prob} {f : List Int} (h1 : validP p = false) : wrongC p f = 70 := by unfold wrongC; rw [if_neg (by simp [h1])]
theorem wrongC_iff {p : Prob} {f : List Int} : wrongC p f = 0 ↔ validP p = true ∧ fillB p f = true := by
  cases h1 : validP p
  · simp [wrongC_70 h1]
  · cases h2 : fillB p f
    · simp [wrongC_71 h1 h2]
    · simp [wrongC_0 h1 h2]
def sndB (p : Prob) (f : List Int) : Bool := decide (wrongC p f = 0) && soundB p f
def agrB (p : Prob) (f : List Int) : Bool := decide (wrongC p f = 0) && agreesB p f
def brkL (p : Prob) (f : List Int) : List Int := if wrongC p f = 0 then breaksL p f else []
def vioL (p : Prob) (f : List Int) : List Int := if wrongC p f = 0 then violL p f else []
def spaceE (p : Prob) : Int := if validP p = true then (if 1125899906842624 < rspace p then 2 else 0) else 70
def spaceV (p : Prob) : Int := if spaceE p = 0 then rspace p else 0
theorem agreesB_bad {p : Prob} {f : List Int} {i : Nat} (hi : i < p.rules.length) (h : keepsB (nth p.rules i) f = false) : agreesB p f = false := by
  unfold agreesB; rw [Bool.and_eq_false_iff]; right; rw [decide_eq_false_iff_not]; intro h'; have := h' i hi; rw [h] at this; cases this
theorem agreesB_rest {p : Prob} {f : List Int} (h : ∀ i, i < p.rules.length → keepsB (nth p.rules i) f = true) : agreesB p f = soundB p f := by
  unfold agreesB; rw [decide_eq_true h, Bool.and_true]
theorem violTo_yes {p : Prob} {f : List Int} {k : Nat} (h : keepsB (nth p.rules k) f = false) (h' : (violTo p f k).length = 0 ∨ nth (violTo p f k) ((violTo p f k).length - 1) ≠ (nth p.rules k).item) : violTo p f (k + 1) = violTo p f k ++ [(nth p.rules k).item] := by
  show (if _ then _ else _) = _
  rw [if_neg]
  rintro (h1 | h1)
  · rw [h] at h1; cases h1
  · rcases h' with h' | h'
    · rw [List.length_eq_zero_iff.1 h'] at h1; cases h1
    · apply h'
      rw [List.getLast?_eq_getElem?] at h1
      unfold nth; rw [List.getD_eq_getElem?_getD, h1]; rfl
theorem violTo_no {p : Prob} {f : List Int} {k : Nat} (h : keepsB (nth p.rules k) f = true ∨ (0 < (violTo p f k).length ∧ nth (violTo p f k) ((violTo p f k).length - 1) = (nth p.rules k).item)) : violTo p f (k + 1) = violTo p f k := by
  show (if _ then _ else _) = _
  rw [if_pos]
  rcases h with h | ⟨h, h'⟩
  · exact .inl h
  · right
    rw [List.getLast?_eq_getElem?, ← h', nth_eq _ _ (by omega)]
    simp

end Go.Proofs.Ytmpkbolabdmkkaa
