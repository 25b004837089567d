/- WHAT A TREE TELLS, kid by kid, in plain Lean. -/
import Derived.Test.YtmpkbolabdmkkaaZSur
namespace Go.Proofs.Ytmpkbolabdmkkaa

theorem nth_cons_succ {α : Type} [Inhabited α] (x : α) (l : List α) (i : Nat) : nth (x :: l) (i + 1) = nth l i := by simp [nth]
theorem okL_iff {p : Prob} {c : List Int} : ∀ (ks : List Nd) (o : Nat), okL p ks c o = true ↔ ∀ i, i < ks.length → okN p (nth ks i) (c ++ [((o + i : Nat) : Int)]) = true
  | [], o => by simp [okL]
  | n :: ks, o => by
    rw [okL, Bool.and_eq_true, okL_iff ks (o + 1)]
    constructor
    · rintro ⟨h0, h1⟩ i hi
      cases i with
      | zero => exact h0
      | succ i =>
        rw [nth_cons_succ, show o + (i + 1) = o + 1 + i by omega]
        exact h1 i (by simpa using hi)
    · intro h
      refine ⟨h 0 (by simp), fun i hi => ?_⟩
      have := h (i + 1) (by simpa using hi)
      rwa [nth_cons_succ, show o + (i + 1) = o + 1 + i by omega] at this
/-- the fillings that the first j kids tell -/
def agTo (ks : List Nd) (c : List Int) (j : Nat) : List (List Int) := (List.range j).flatMap fun i => agN (nth ks i) (c ++ [((i : Nat) : Int)])
theorem agTo_succ (ks : List Nd) (c : List Int) (j : Nat) : agTo ks c (j + 1) = agTo ks c j ++ agN (nth ks j) (c ++ [(j : Int)]) := by simp [agTo, List.range_succ]
theorem agL_range {c : List Int} : ∀ (ks : List Nd) (o : Nat), agL ks c o = (List.range ks.length).flatMap fun i => agN (nth ks i) (c ++ [((o + i : Nat) : Int)])
  | [], o => by simp [agL]
  | n :: ks, o => by
    rw [agL, agL_range ks (o + 1), List.length_cons, List.range_succ_eq_map, List.flatMap_cons, List.flatMap_map]
    congr 1
    congr 1
    funext i
    rw [Nat.succ_eq_add_one, nth_cons_succ, show o + (i + 1) = o + 1 + i by omega]
theorem agTo_all (ks : List Nd) (c : List Int) : agL ks c 0 = agTo ks c ks.length := by
  rw [agL_range]; unfold agTo; simp only [Nat.zero_add]
def szTo (ks : List Nd) : Nat → Nat
  | 0 => 0
  | j + 1 => szTo ks j + szN (nth ks j)
theorem szTo_cons (n : Nd) (ks : List Nd) : ∀ j, szTo (n :: ks) (j + 1) = szN n + szTo ks j
  | 0 => by simp [szTo, nth]
  | j + 1 => by
    rw [szTo, szTo_cons n ks j, nth_cons_succ]
    show _ = szN n + (szTo ks j + szN (nth ks j))
    omega
theorem szTo_all : ∀ ks : List Nd, szL ks = szTo ks ks.length
  | [] => rfl
  | n :: ks => by rw [szL, szTo_all ks, List.length_cons, szTo_cons]
theorem szTo_mono (ks : List Nd) : ∀ j k, j ≤ k → szTo ks j ≤ szTo ks k
  | j, 0, h => by obtain rfl : j = 0 := by omega
                  exact Nat.le_refl _
  | j, k + 1, h => by
    rcases Nat.lt_or_ge k j with h1 | h1
    · obtain rfl : j = k + 1 := by omega
      exact Nat.le_refl _
    · have := szTo_mono ks j k h1
      show _ ≤ szTo ks k + _
      omega
mutual
theorem agN_len : ∀ (n : Nd) (c : List Int), (agN n c).length ≤ szN n
  | .mk kd ix ks, c => by
    rw [agN, szN]
    split
    · have := agL_len ks c 0; omega
    · split <;> simp
theorem agL_len : ∀ (ks : List Nd) (c : List Int) (o : Nat), (agL ks c o).length ≤ szL ks
  | [], _, _ => by simp [agL]
  | n :: ks, c, o => by
    rw [agL, szL, List.length_append]
    have := agN_len n (c ++ [(o : Int)])
    have := agL_len ks c (o + 1)
    omega
end
theorem agTo_len (ks : List Nd) (c : List Int) : ∀ j, (agTo ks c j).length ≤ szTo ks j
  | 0 => by simp [agTo]
  | j + 1 => by
    rw [agTo_succ, List.length_append]
    have := agTo_len ks c j
    have := agN_len (nth ks j) (c ++ [(j : Int)])
    show _ ≤ szTo ks j + _
    omega
theorem okN_branch {p : Prob} {ix : Int} {ks : List Nd} {c : List Int} : okN p (.mk 1 ix ks) c = (decide (ix = c.length ∧ c.length < p.panes.length ∧ ks.length = (nth p.opts c.length).length) && okL p ks c 0) := by
  rw [okN, if_pos rfl]
theorem okN_leaf {p : Prob} {kd ix : Int} {ks : List Nd} {c : List Int} (h : kd ≠ 1) : okN p (.mk kd ix ks) c = (decide (ks.length = 0) && leafB p kd ix c) := by
  rw [okN, if_neg h]
theorem agN_branch {ix : Int} {ks : List Nd} {c : List Int} : agN (.mk 1 ix ks) c = agTo ks c ks.length := by
  rw [agN, if_pos rfl, agTo_all]
theorem agN_leaf {kd ix : Int} {ks : List Nd} {c : List Int} (h : kd ≠ 1) : agN (.mk kd ix ks) c = if kd = 2 then [c] else [] := by
  rw [agN, if_neg h]
end Go.Proofs.Ytmpkbolabdmkkaa
