/- SETS OF ITEMS AS NUMBERS: what a filling violates; which sets are kept; the least set that is not. -/
import Derived.Test.YtmpkbolabdmkkaaZPlS
import Derived.Test.YtmpkbolabdmkkaaZh
namespace Go.Proofs.Ytmpkbolabdmkkaa

/-- the items, as places' least finds them -/
theorem items_comp (l : List Rl) : ∀ k, k ≤ l.length → itemsTo l k = compL ((l.take k).map Rl.item)
  | 0, _ => rfl
  | k + 1, hk => by
    have e : (l.take (k + 1)).map Rl.item = (l.take k).map Rl.item ++ [(nth l k).item] := by rw [take_snoc_nth l k (by omega), List.map_append]; rfl
    rw [e, compL_snoc, itemsTo, items_comp l k (by omega)]
    by_cases h0 : k = 0
    · subst h0; simp
    · have hl : ((l.take k).map Rl.item).getLast? = some (nth l (k - 1)).item := by
        obtain ⟨j, rfl⟩ : ∃ j, k = j + 1 := ⟨k - 1, by omega⟩
        rw [take_snoc_nth l j (by omega), List.map_append]; simp
      rw [hl]
      by_cases h1 : (nth l k).item = (nth l (k - 1)).item
      · rw [if_neg (by simp [h0, h1]), if_pos (by rw [h1])]
      · rw [if_pos (.inr h1), if_neg (by simpa using fun e => h1 e.symm)]
theorem mem_itemsTo (l : List Rl) : ∀ k, k ≤ l.length → ∀ j, j < k → (nth l j).item ∈ itemsTo l k
  | 0, _, _, h => absurd h (Nat.not_lt_zero _)
  | k + 1, hk, j, h => by
    unfold itemsTo
    by_cases hc : k = 0 ∨ (nth l k).item ≠ (nth l (k - 1)).item
    · rw [if_pos hc]
      rcases Nat.lt_succ_iff_lt_or_eq.1 h with h1 | rfl
      · exact List.mem_append_left _ (mem_itemsTo l k (by omega) j h1)
      · simp
    · rw [if_neg hc]
      rcases Nat.lt_succ_iff_lt_or_eq.1 h with h1 | rfl
      · exact mem_itemsTo l k (by omega) j h1
      · have h2 : j ≠ 0 ∧ (nth l j).item = (nth l (j - 1)).item := by simpa using hc
        rw [h2.2]; exact mem_itemsTo l j (by omega) (j - 1) (by omega)

/-- the items that a filling violates, as bits -/
def vmTo (p : Prob) (f : List Int) : Nat → Nat
  | 0 => 0
  | k + 1 => if keepsB (nth p.rules k) f = true then vmTo p f k else vmTo p f k ||| 2 ^ ((items p).idxOf (nth p.rules k).item)
def vm (p : Prob) (f : List Int) : Nat := vmTo p f p.rules.length
theorem idx_lt (p : Prob) {k : Nat} (hk : k < p.rules.length) : (items p).idxOf (nth p.rules k).item < (items p).length := List.idxOf_lt_length_iff.2 (mem_itemsTo _ _ (Nat.le_refl _) k hk)
theorem idxL_rule (p : Prob) {k : Nat} (hk : k < p.rules.length) : idxL (items p) (nth p.rules k).item = ((items p).idxOf (nth p.rules k).item : Nat) := by
  unfold idxL; rw [if_pos (show _ ∈ items p from mem_itemsTo _ _ (Nat.le_refl _) k hk)]
theorem vmTo_lt (p : Prob) (f : List Int) : ∀ k, k ≤ p.rules.length → vmTo p f k < 2 ^ (items p).length
  | 0, _ => Nat.two_pow_pos _
  | k + 1, hk => by
    unfold vmTo
    have h := vmTo_lt p f k (by omega)
    split
    · exact h
    · exact Nat.or_lt_two_pow h (Nat.pow_lt_pow_right (by decide) (idx_lt p (by omega)))
theorem vm_lt (p : Prob) (f : List Int) : vm p f < 2 ^ (items p).length := vmTo_lt p f _ (Nat.le_refl _)

/-- a row of bools, one for each set -/
def rowK (n : Nat) (f : Nat → Bool) : List Bool := (List.range (2 ^ n)).map f
theorem rowK_len (n : Nat) (f : Nat → Bool) : (rowK n f).length = 2 ^ n := by simp [rowK]
theorem nth_rowK {n s : Nat} (f : Nat → Bool) (hs : s < 2 ^ n) : nth (rowK n f) s = f s := by rw [nth_eq _ _ (by rw [rowK_len]; exact hs)]; simp [rowK]
theorem rowK_congr {n : Nat} {f g : Nat → Bool} (h : ∀ s, s < 2 ^ n → f s = g s) : rowK n f = rowK n g := by
  unfold rowK; exact List.map_congr_left fun s hs => h s (by simpa using hs)
theorem rowK_set {n i : Nat} (f : Nat → Bool) (hi : i < 2 ^ n) : (rowK n f).set i true = rowK n fun s => f s || s == i := by
  refine ext_nth (by rw [List.length_set, rowK_len, rowK_len]) fun s hs => ?_
  rw [List.length_set, rowK_len] at hs
  rw [nth_rowK _ hs]
  by_cases e : s = i
  · subst e; rw [nth_set_same (by rw [rowK_len]; exact hi)]; simp
  · rw [nth_set_other e, nth_rowK _ hs]; simp [e]
theorem rowK_false (n : Nat) : rowK n (fun _ => false) = List.replicate (2 ^ n) false := by
  unfold rowK; rw [List.map_const']; simp

/-- a filling counts -/
def useB (p : Prob) (of : List Int → Bool) (f : List Int) : Bool := soundB p f && of f
/-- the sets that one of the first k fillings violates nothing of, and everything else -/
def k0To (p : Prob) (of : List Int → Bool) (k : Nat) (s : Nat) : Bool := ((fills p).take k).any fun f => useB p of f && (s == 2 ^ (items p).length - 1 - vm p f)
theorem k0To_succ {p : Prob} {of : List Int → Bool} {k : Nat} (hk : k < total p) (s : Nat) : k0To p of (k + 1) s = (k0To p of k s || (useB p of (fill p k) && (s == 2 ^ (items p).length - 1 - vm p (fill p k)))) := by
  unfold k0To; rw [take_snoc_nth _ k (by rw [fills_len]; exact hk), List.any_append, nth_fills hk]; simp
theorem k0To_no {p : Prob} {of : List Int → Bool} {k : Nat} (hk : k < total p) (h : useB p of (fill p k) = false) : k0To p of (k + 1) = k0To p of k := by
  funext s; rw [k0To_succ hk, h]; simp
theorem k0To_yes {p : Prob} {of : List Int → Bool} {k : Nat} (hk : k < total p) (h : useB p of (fill p k) = true) : k0To p of (k + 1) = fun s => k0To p of k s || s == 2 ^ (items p).length - 1 - vm p (fill p k) := by
  funext s; rw [k0To_succ hk, h]; simp

/-- parts of what is kept are kept: one item more -/
def kStep (k : Nat) (g : Nat → Bool) (s : Nat) : Bool := g s || (!s.testBit k && g (s + 2 ^ k))
def kUp (g : Nat → Bool) : Nat → Nat → Bool
  | 0 => g
  | k + 1 => kStep k (kUp g k)
/-- .. looked at below m alone -/
def kPart (k : Nat) (g : Nat → Bool) (m s : Nat) : Bool := g s || (!s.testBit k && decide (s + 2 ^ k < m) && g (s + 2 ^ k))
theorem kPart_0 (k : Nat) (g : Nat → Bool) : kPart k g 0 = g := by funext s; simp [kPart]
theorem add_bit {n s k : Nat} (hs : s < 2 ^ n) (hn : n ≤ 16) (hk : k < n) (h : s.testBit k = false) : s + 2 ^ k < 2 ^ n := by
  have hp : 2 ^ n ≤ 2 ^ 16 := Nat.pow_le_pow_right (by decide) hn
  have hkn : 2 ^ k < 2 ^ n := Nat.pow_lt_pow_right (by decide) hk
  have h0 : s &&& 2 ^ k = 0 := by
    apply Nat.eq_of_testBit_eq
    intro j
    rw [Nat.testBit_and, Nat.testBit_two_pow]
    by_cases hj : k = j
    · subst hj; simp [h]
    · simp [hj]
  rw [nat_add_or (by omega) (by omega) h0]
  exact Nat.or_lt_two_pow hs hkn
theorem kPart_all {n k : Nat} (hn : n ≤ 16) (hk : k < n) (g : Nat → Bool) : ∀ s, s < 2 ^ n → kPart k g (2 ^ n) s = kStep k g s := fun s hs => by
  unfold kPart kStep
  cases h : s.testBit k
  · simp [add_bit hs hn hk h]
  · simp
theorem kPart_at {k m : Nat} (g : Nat → Bool) (h : m.testBit k = true) : kPart k g m m = g m := by simp [kPart, h]
theorem kPart_succ (k m : Nat) (g : Nat → Bool) (hm : m < 65536) : kPart k g (m + 1) = fun s => kPart k g m s || (m.testBit k && g m && (s == m - 2 ^ k)) := by
  funext s
  unfold kPart
  cases ht : m.testBit k
  · have hne : s.testBit k = false → s + 2 ^ k ≠ m := by
      intro h1 e
      rw [← e, Nat.add_comm, Nat.testBit_two_pow_add_eq, h1] at ht
      cases ht
    cases hs : s.testBit k
    · have := hne hs
      have e : decide (s + 2 ^ k < m + 1) = decide (s + 2 ^ k < m) := by simp; omega
      rw [e]; simp
    · simp
  · obtain ⟨_, hle⟩ := bit_not hm ht
    have hz : (m - 2 ^ k).testBit k = false := by
      have := Nat.testBit_two_pow_add_eq (m - 2 ^ k) k
      rw [show 2 ^ k + (m - 2 ^ k) = m by omega, ht] at this
      simpa using this.symm
    by_cases e : s = m - 2 ^ k
    · subst e
      have e2 : m - 2 ^ k + 2 ^ k = m := by omega
      simp [hz, e2]
    · have e1 : decide (s + 2 ^ k < m + 1) = decide (s + 2 ^ k < m) := by simp; omega
      rw [e1]; simp [e]

/-- the best of the first m sets that are not kept -/
def bestTo (its : List Int) (K : Nat → Bool) : Nat → Nat
  | 0 => 2 ^ its.length - 1
  | s + 1 => if K s = false ∧ (cnt its.length s < cnt its.length (bestTo its K s) ∨ (cnt its.length s = cnt its.length (bestTo its K s) ∧ lessB (listed its s) (listed its (bestTo its K s)) = true)) then s else bestTo its K s
theorem bestTo_lt (its : List Int) (K : Nat → Bool) : ∀ m, m ≤ 2 ^ its.length → bestTo its K m < 2 ^ its.length
  | 0, _ => by have := Nat.two_pow_pos its.length; unfold bestTo; omega
  | m + 1, hm => by
    unfold bestTo
    split
    · omega
    · exact bestTo_lt its K m (by omega)
/-- which sets are kept in the end -/
def keptK (p : Prob) (of : List Int → Bool) : Nat → Bool := kUp (k0To p of (total p)) (items p).length
def leastO (p : Prob) (of : List Int → Bool) : Option (List Int) := if keptK p of (2 ^ (items p).length - 1) = true then none else some (listed (items p) (bestTo (items p) (keptK p of) (2 ^ (items p).length)))
end Go.Proofs.Ytmpkbolabdmkkaa
