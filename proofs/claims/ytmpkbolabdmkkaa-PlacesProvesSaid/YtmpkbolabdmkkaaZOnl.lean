/- A PROBLEM WITH THE RULES OF SOME ITEMS ONLY, in plain Lean. -/
import Derived.Test.YtmpkbolabdmkkaaZPoA
import Derived.Test.YtmpkbolabdmkkaaZPos
namespace Go.Proofs.Ytmpkbolabdmkkaa

def risingB (l : List Int) : Bool := decide (∀ i, i < l.length → 0 < i → nth l (i - 1) < nth l i)
theorem risingB_no {l : List Int} {i : Nat} (hi : i < l.length) (h0 : 0 < i) (h : nth l i ≤ nth l (i - 1)) : risingB l = false := by
  unfold risingB; rw [decide_eq_false_iff_not]; intro h'; have := h' i hi h0; omega
theorem risingB_yes {l : List Int} (h : ∀ i, i < l.length → 0 < i → nth l (i - 1) < nth l i) : risingB l = true := by
  unfold risingB; rw [decide_eq_true_iff]; exact h
def onlyTo (p : Prob) (it : List Int) : Nat → List Rl
  | 0 => []
  | k + 1 => if hasI it (nth p.rules k).item = true then onlyTo p it k ++ [nth p.rules k] else onlyTo p it k
def onlyP (p : Prob) (it : List Int) : Prob := ⟨p.panes, p.opts, onlyTo p it p.rules.length⟩
def onlyE (p : Prob) (it : List Int) : Int := if validP p = true then (if risingB it = true then 0 else 1) else 70
theorem onlyTo_len (p : Prob) (it : List Int) : ∀ k, (onlyTo p it k).length ≤ k
  | 0 => Nat.le_refl _
  | k + 1 => by have := onlyTo_len p it k; unfold onlyTo; split <;> simp <;> omega
theorem onlyTo_yes {p : Prob} {it : List Int} {k : Nat} (h : hasI it (nth p.rules k).item = true) : onlyTo p it (k + 1) = onlyTo p it k ++ [nth p.rules k] := by
  show (if _ then _ else _) = _; rw [if_pos h]
theorem onlyTo_no {p : Prob} {it : List Int} {k : Nat} (h : hasI it (nth p.rules k).item = false) : onlyTo p it (k + 1) = onlyTo p it k := by
  show (if _ then _ else _) = _; rw [if_neg (by simp [h])]
theorem onlyE_70 {p : Prob} {it : List Int} (h : validP p = false) : onlyE p it = 70 := by unfold onlyE; rw [if_neg (by simp [h])]
theorem onlyE_1 {p : Prob} {it : List Int} (h : validP p = true) (h2 : risingB it = false) : onlyE p it = 1 := by unfold onlyE; rw [if_pos h, if_neg (by simp [h2])]
theorem onlyE_0 {p : Prob} {it : List Int} (h : validP p = true) (h2 : risingB it = true) : onlyE p it = 0 := by unfold onlyE; rw [if_pos h, if_pos h2]
end Go.Proofs.Ytmpkbolabdmkkaa
