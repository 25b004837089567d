/- WHAT Clash AND Reason TELL, against the witness and the first filling of a problem with some items, in plain Lean. -/
import Derived.Test.YtmpkbolabdmkkaaZClh
import Derived.Test.YtmpkbolabdmkkaaZWit
import Derived.Test.YtmpkbolabdmkkaaZPlU
namespace Go.Proofs.Ytmpkbolabdmkkaa

/-- a problem with a set of its items -/
def subP (p : Prob) (s : Nat) : Prob := onlyP p (listed (items p) s)
theorem sub_large {p : Prob} (hv : validP p = true) (s : Nat) : largeE (subP p s) = largeE p := only_large hv _
theorem sub_onlyE {p : Prob} (hv : validP p = true) (s : Nat) : onlyE p (listed (items p) s) = 0 := onlyE_0 hv (listed_rising hv s)
theorem wit_cases {p : Prob} {i o : Nat} (hi : i < p.opts.length) (ho : o < (nth p.opts i).length) (h : largeE p = 0) : (witE p i o = 0 ∧ ∃ f ∈ agr p, hasB i o f = true) ∨ (witE p i o = 3 ∧ ∀ f ∈ agr p, hasB i o f = false) := by
  rw [witE_small hi ho h]
  cases hf : (agr p).find? (hasB i o) with
  | none =>
    right
    refine ⟨rfl, fun f hm => ?_⟩
    have := List.find?_eq_none.1 hf f hm
    simpa using this
  | some f =>
    left
    exact ⟨rfl, f, List.mem_of_find?_eq_some hf, List.find?_some hf⟩
theorem first_cases {p : Prob} (h : largeE p = 0) : (firstE p = 0 ∧ (agr p).length ≠ 0) ∨ (firstE p = 72 ∧ (agr p).length = 0) := by
  unfold firstE
  rw [if_neg (by simp [h])]
  by_cases hl : (agr p).length = 0
  · right; rw [if_pos hl]; exact ⟨rfl, hl⟩
  · left; rw [if_neg hl]; exact ⟨rfl, hl⟩
theorem reason_spec {p : Prob} (hv : validP p = true) (h0 : largeE p = 0) {i o : Nat} (hi : i < p.opts.length) (ho : o < (nth p.opts i).length) :
    (reasonE p i o = 3 ∧ witE p i o = 0) ∨ (reasonE p i o = 0 ∧ witE p i o = 3 ∧ ∃ b, b < 2 ^ (items p).length ∧ reasonL p i o = listed (items p) b ∧ witE (subP p b) i o = 3 ∧ ∀ s, s < 2 ^ (items p).length → witE (subP p s) i o = 3 → (listed (items p) b).length ≤ (listed (items p) s).length) := by
  have hask : askE p (thereB p i o) = 0 := askE_0.2 ⟨hv, there_of hv hi ho, (largeE_0.1 h0).2⟩
  have hws : ∀ s, (witE (subP p s) i o = 3 ↔ ∀ f ∈ agr (onlyP p (listed (items p) s)), hasB i o f = false) := fun s => by
    rcases wit_cases (p := subP p s) (i := i) (o := o) hi ho (by rw [sub_large hv]; exact h0) with ⟨h1, f, hf, hh⟩ | ⟨h1, h2⟩
    · rw [h1]
      refine ⟨fun h => (by cases h), fun h => ?_⟩
      have := h f hf
      rw [hh] at this; cases this
    · exact ⟨fun _ => h2, fun _ => h1⟩
  rcases least_spec hv (hasB i o) with ⟨h1, f, hf, hh⟩ | ⟨h1, b, hb, h2, h3, h4⟩
  · left
    have hr : reasonO p i o = none := h1
    refine ⟨by unfold reasonE; rw [if_neg (by simp [hask]), hr]; rfl, ?_⟩
    rcases wit_cases hi ho h0 with ⟨h5, _⟩ | ⟨_, h6⟩
    · exact h5
    · rw [h6 f hf] at hh; cases hh
  · right
    have hr : reasonO p i o = some (listed (items p) b) := h2
    have hE : reasonE p i o = 0 := by unfold reasonE; rw [if_neg (by simp [hask]), hr]; rfl
    refine ⟨hE, ?_, b, hb, by unfold reasonL; rw [if_pos hE, hr]; rfl, (hws b).2 h3, fun s hs h => h4 s hs ((hws s).1 h)⟩
    rcases wit_cases hi ho h0 with ⟨_, f, hf, hh⟩ | ⟨h6, _⟩
    · rw [h1 f hf] at hh; cases hh
    · exact h6
theorem clash_spec {p : Prob} (hv : validP p = true) (h0 : largeE p = 0) :
    (clashE p = 3 ∧ countV p ≠ 0) ∨ (clashE p = 0 ∧ countV p = 0 ∧ ∃ b, b < 2 ^ (items p).length ∧ clashL p = listed (items p) b ∧ firstE (subP p b) = 72 ∧ ∀ s, s < 2 ^ (items p).length → firstE (subP p s) = 72 → (listed (items p) b).length ≤ (listed (items p) s).length) := by
  have hws : ∀ s, (firstE (subP p s) = 72 ↔ ∀ f ∈ agr (onlyP p (listed (items p) s)), (fun _ : List Int => true) f = false) := fun s => by
    rcases first_cases (p := subP p s) (by rw [sub_large hv]; exact h0) with ⟨h1, h2⟩ | ⟨h1, h2⟩
    · rw [h1]
      refine ⟨fun h => (by cases h), fun h => ?_⟩
      have hne : 0 < (agr (subP p s)).length := by omega
      have := h _ (nth_mem (l := agr (subP p s)) hne)
      cases this
    · refine ⟨fun _ f hf => ?_, fun _ => h1⟩
      rw [show agr (onlyP p (listed (items p) s)) = [] from List.eq_nil_of_length_eq_zero h2] at hf
      cases hf
  rcases least_spec hv (fun _ => true) with ⟨h1, f, hf, _⟩ | ⟨h1, b, hb, h2, h3, h4⟩
  · left
    have hr : clashO p = none := h1
    refine ⟨by unfold clashE; rw [if_neg (by simp [h0]), hr]; rfl, ?_⟩
    unfold countV
    rw [if_pos h0]
    intro h
    have : (agr p).length = 0 := by omega
    rw [List.eq_nil_of_length_eq_zero this] at hf
    cases hf
  · right
    have hr : clashO p = some (listed (items p) b) := h2
    have hE : clashE p = 0 := by unfold clashE; rw [if_neg (by simp [h0]), hr]; rfl
    refine ⟨hE, ?_, b, hb, by unfold clashL; rw [if_pos hE, hr]; rfl, (hws b).2 h3, fun s hs h => h4 s hs ((hws s).1 h)⟩
    unfold countV
    rw [if_pos h0]
    cases hl : agr p with
    | nil => rfl
    | cons f l => have := h1 f (by rw [hl]; simp); cases this
/-- a set was met -/
def metTo (its S : List Int) : Nat → Bool
  | 0 => false
  | s + 1 => metTo its S s || decide (listed its s = S)
theorem metTo_of {its S : List Int} {b : Nat} (h : listed its b = S) : ∀ n, b < n → metTo its S n = true
  | 0, hb => absurd hb (Nat.not_lt_zero _)
  | n + 1, hb => by
    unfold metTo
    rcases Nat.lt_succ_iff_lt_or_eq.1 hb with h1 | rfl
    · rw [metTo_of h n h1, Bool.true_or]
    · rw [decide_eq_true h, Bool.or_true]
/-- what the law asks of one set: of one of the two answers -/
structure LeastAt (its : List Int) (e : Int) (S : List Int) (E : Nat → Int) (none : Int) (s : Nat) : Prop where
  less : e = 0 → E s = none → S.length ≤ (listed its s).length
  same : e = 0 → listed its s = S → E s = none
theorem reason_at {p : Prob} (hv : validP p = true) (h0 : largeE p = 0) {i o : Nat} (hi : i < p.opts.length) (ho : o < (nth p.opts i).length) {s : Nat} (hs : s < 2 ^ (items p).length) :
    LeastAt (items p) (reasonE p i o) (reasonL p i o) (fun s => witE (subP p s) i o) 3 s := by
  rcases reason_spec hv h0 hi ho with ⟨h1, _⟩ | ⟨h1, _, b, hb, h3, h4, h5⟩
  · exact ⟨fun h => (by rw [h1] at h; cases h), fun h => (by rw [h1] at h; cases h)⟩
  · refine ⟨fun _ h => by rw [h3]; exact h5 s hs h, fun _ h => ?_⟩
    have e : subP p s = subP p b := by unfold subP; rw [h, h3]
    show witE (subP p s) i o = 3
    rw [e]; exact h4
theorem clash_at {p : Prob} (hv : validP p = true) (h0 : largeE p = 0) {s : Nat} (hs : s < 2 ^ (items p).length) : LeastAt (items p) (clashE p) (clashL p) (fun s => firstE (subP p s)) 72 s := by
  rcases clash_spec hv h0 with ⟨h1, _⟩ | ⟨h1, _, b, hb, h3, h4, h5⟩
  · exact ⟨fun h => (by rw [h1] at h; cases h), fun h => (by rw [h1] at h; cases h)⟩
  · refine ⟨fun _ h => by rw [h3]; exact h5 s hs h, fun _ h => ?_⟩
    have e : subP p s = subP p b := by unfold subP; rw [h, h3]
    show firstE (subP p s) = 72
    rw [e]; exact h4
end Go.Proofs.Ytmpkbolabdmkkaa
