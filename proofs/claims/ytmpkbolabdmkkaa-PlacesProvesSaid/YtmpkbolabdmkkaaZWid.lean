/- HOW WIDE A TREE IS, in plain Lean. -/
import Derived.Test.YtmpkbolabdmkkaaZNod
namespace Go.Proofs.Ytmpkbolabdmkkaa

mutual
/-- how many nodes a tree has, or some number above m -/
def wideN : Nd → Int → Int
  | .mk _ _ ks, m => wideL ks m 1
def wideL : List Nd → Int → Int → Int
  | [], _, s => s
  | n :: ks, m, s => if s ≤ m then wideL ks m (s + wideN n (m - s)) else s
end
mutual
theorem wideN_bd : ∀ (n : Nd) (m : Int), 0 ≤ m → 1 ≤ wideN n m ∧ wideN n m ≤ m + 1 ∧ (wideN n m ≤ m → wideN n m = szN n)
  | .mk _ _ ks, m, h => by
    obtain ⟨h1, h2, h3⟩ := wideL_bd ks m 1 (by omega) (by omega)
    unfold wideN szN
    exact ⟨h1, h2, fun h => by rw [h3 h]; omega⟩
theorem wideL_bd : ∀ (ks : List Nd) (m s : Int), 1 ≤ s → s ≤ m + 1 → s ≤ wideL ks m s ∧ wideL ks m s ≤ m + 1 ∧ (wideL ks m s ≤ m → wideL ks m s = s + szL ks)
  | [], m, s, h, h2 => by unfold wideL szL; omega
  | n :: ks, m, s, h, h2 => by
    unfold wideL szL
    split
    · obtain ⟨a1, a2, a3⟩ := wideN_bd n (m - s) (by omega)
      obtain ⟨b1, b2, b3⟩ := wideL_bd ks m (s + wideN n (m - s)) (by omega) (by omega)
      refine ⟨by omega, b2, fun h => ?_⟩
      rw [b3 h, a3 (by omega)]; omega
    · omega
end
theorem wideL_drop {ks : List Nd} {k : Nat} (hk : k < ks.length) {m s : Int} (h : s ≤ m) : wideL (ks.drop k) m s = wideL (ks.drop (k + 1)) m (s + wideN (nth ks k) (m - s)) := by
  rw [List.drop_eq_getElem_cons hk, wideL, if_pos h, nth_eq _ _ hk]
theorem wideL_stop (ks : List Nd) {m s : Int} (h : m < s) : wideL ks m s = s := by
  cases ks with
  | nil => rfl
  | cons n ks => rw [wideL, if_neg (by omega)]
theorem wideN_kids (n : Nd) (m : Int) : wideN n m = wideL n.kids m 1 := by cases n; rfl
end Go.Proofs.Ytmpkbolabdmkkaa
