/- FILLINGS BY NUMBER: mixed radix numerals over the numbers of options; the next filling; the product. -/
import Derived.Test.YtmpkbolabdmkkaaDatb
namespace Go.Proofs.Ytmpkbolabdmkkaa

theorem nth_append_left {α : Type} [Inhabited α] {l m : List α} {i : Nat} (h : i < l.length) : nth (l ++ m) i = nth l i := by
  unfold nth; rw [List.getD_eq_getElem?_getD, List.getD_eq_getElem?_getD, List.getElem?_append_left h]
theorem nth_snoc {α : Type} [Inhabited α] (l : List α) (x : α) : nth (l ++ [x]) l.length = x := by
  unfold nth; simp [List.getD_eq_getElem?_getD]
theorem nth_take {α : Type} [Inhabited α] {l : List α} {k i : Nat} (h : i < k) : nth (l.take k) i = nth l i := by
  unfold nth; rw [List.getD_eq_getElem?_getD, List.getD_eq_getElem?_getD, List.getElem?_take, if_pos h]
theorem ext_nth {α : Type} [Inhabited α] {l m : List α} (hl : l.length = m.length) (h : ∀ i, i < l.length → nth l i = nth m i) : l = m := by
  apply List.ext_getElem hl
  intro i h1 h2
  have := h i h1
  rwa [nth_eq l i h1, nth_eq m i h2] at this
theorem take_snoc_nth {α : Type} [Inhabited α] (l : List α) (k : Nat) (h : k < l.length) : l.take (k + 1) = l.take k ++ [nth l k] := by
  rw [List.take_succ_eq_append_getElem h, nth_eq l k h]

/-- how many options pane i has -/
def dim (p : Prob) (i : Nat) : Nat := (nth p.opts i).length
def prodTo (p : Prob) : Nat → Nat
  | 0 => 1
  | k + 1 => prodTo p k * dim p k
theorem prodTo_succ (p : Prob) (k : Nat) : prodTo p (k + 1) = prodTo p k * dim p k := rfl
/-- how many fillings there are -/
def total (p : Prob) : Nat := prodTo p p.opts.length

/-- the first k choices of f are some -/
def Okk (p : Prob) (k : Nat) (f : List Int) : Prop := f.length = k ∧ ∀ i, i < k → 0 ≤ nth f i ∧ nth f i < dim p i

/-- the number of the first k choices -/
def rankTo (p : Prob) (f : List Int) : Nat → Nat
  | 0 => 0
  | k + 1 => rankTo p f k * dim p k + (nth f k).toNat
/-- the choices of number r -/
def unr (p : Prob) : Nat → Nat → List Int
  | 0, _ => []
  | k + 1, r => unr p k (r / dim p k) ++ [((r % dim p k : Nat) : Int)]

theorem unr_succ (p : Prob) (k r : Nat) : unr p (k + 1) r = unr p k (r / dim p k) ++ [((r % dim p k : Nat) : Int)] := rfl
theorem unr_len (p : Prob) : ∀ k r, (unr p k r).length = k
  | 0, _ => rfl
  | k + 1, r => by simp [unr, unr_len p k]
theorem rankTo_congr (p : Prob) {f g : List Int} : ∀ k, (∀ i, i < k → nth f i = nth g i) → rankTo p f k = rankTo p g k
  | 0, _ => rfl
  | k + 1, h => by unfold rankTo; rw [rankTo_congr p k (fun i hi => h i (by omega)), h k (by omega)]
theorem rank_unr (p : Prob) : ∀ k r, (∀ i, i < k → 0 < dim p i) → r < prodTo p k → rankTo p (unr p k r) k = r
  | 0, r, _, h => by simp [prodTo] at h; simp [rankTo, h]
  | k + 1, r, hd, h => by
    have hl := unr_len p k (r / dim p k)
    have h0 := hd k (by omega)
    unfold rankTo unr
    rw [rankTo_congr p k (g := unr p k (r / dim p k)) (fun i hi => nth_append_left (by omega)),
      rank_unr p k (r / dim p k) (fun i hi => hd i (by omega)) (by unfold prodTo at h; exact Nat.div_lt_of_lt_mul (by rw [Nat.mul_comm]; exact h))]
    have : nth (unr p k (r / dim p k) ++ [((r % dim p k : Nat) : Int)]) k = ((r % dim p k : Nat) : Int) := by
      have := nth_snoc (unr p k (r / dim p k)) ((r % dim p k : Nat) : Int); rwa [hl] at this
    rw [this, Int.toNat_natCast]
    have := Nat.div_add_mod r (dim p k)
    rw [Nat.mul_comm] at this; exact this
theorem unr_ok (p : Prob) : ∀ k r, (∀ i, i < k → 0 < dim p i) → Okk p k (unr p k r)
  | 0, r, _ => ⟨rfl, fun i hi => absurd hi (Nat.not_lt_zero _)⟩
  | k + 1, r, hd => by
    refine ⟨unr_len p _ _, fun i hi => ?_⟩
    have hl := unr_len p k (r / dim p k)
    unfold unr
    rcases Nat.lt_succ_iff_lt_or_eq.1 hi with h | rfl
    · rw [nth_append_left (by omega)]; exact (unr_ok p k _ (fun i hi => hd i (by omega))).2 i h
    · have h1 := nth_snoc (unr p i (r / dim p i)) ((r % dim p i : Nat) : Int)
      rw [hl] at h1
      rw [h1]
      have := Nat.mod_lt r (hd i (by omega))
      omega
theorem rank_lt (p : Prob) {f : List Int} : ∀ k, (∀ i, i < k → 0 ≤ nth f i ∧ nth f i < dim p i) → rankTo p f k < prodTo p k
  | 0, _ => by simp [rankTo, prodTo]
  | k + 1, h => by
    have h1 := rank_lt p k (fun i hi => h i (by omega))
    have h2 := h k (by omega)
    unfold rankTo prodTo
    have h3 : (nth f k).toNat < dim p k := by omega
    calc rankTo p f k * dim p k + (nth f k).toNat < rankTo p f k * dim p k + dim p k := by omega
      _ = (rankTo p f k + 1) * dim p k := by rw [Nat.add_mul, Nat.one_mul]
      _ ≤ prodTo p k * dim p k := Nat.mul_le_mul_right _ h1
theorem unr_rank (p : Prob) {f : List Int} : ∀ k, k ≤ f.length → (∀ i, i < k → 0 ≤ nth f i ∧ nth f i < dim p i) → unr p k (rankTo p f k) = f.take k
  | 0, _, _ => by simp [unr]
  | k + 1, hl, h => by
    have h2 := h k (by omega)
    have h3 : (nth f k).toNat < dim p k := by omega
    have hd : 0 < dim p k := by omega
    have e1 : (rankTo p f k * dim p k + (nth f k).toNat) / dim p k = rankTo p f k := by
      rw [Nat.mul_comm, Nat.mul_add_div hd, Nat.div_eq_of_lt h3, Nat.add_zero]
    have e2 : (rankTo p f k * dim p k + (nth f k).toNat) % dim p k = (nth f k).toNat := by
      rw [Nat.mul_comm, Nat.mul_add_mod, Nat.mod_eq_of_lt h3]
    unfold rankTo unr
    rw [e1, e2, unr_rank p k (by omega) (fun i hi => h i (by omega)), take_snoc_nth f k (by omega)]
    congr 2
    omega

/-- the choices that come next -/
def nextK (p : Prob) : Nat → List Int → Option (List Int)
  | 0, _ => none
  | k + 1, f => if nth f k + 1 < dim p k then some (f.take k ++ [nth f k + 1]) else (nextK p k (f.take k)).map (· ++ [0])
def nextF (p : Prob) (f : List Int) : Option (List Int) := nextK p f.length f

theorem nextK_spec (p : Prob) : ∀ k (f : List Int), Okk p k f → nextK p k f = if rankTo p f k + 1 < prodTo p k then some (unr p k (rankTo p f k + 1)) else none
  | 0, f, _ => by simp [nextK, rankTo, prodTo]
  | k + 1, f, h => by
    have h2 := h.2 k (by omega)
    have hok : Okk p k (f.take k) := ⟨by rw [List.length_take, h.1]; omega, fun i hi => by rw [nth_take hi]; exact h.2 i (by omega)⟩
    have hr : rankTo p (f.take k) k = rankTo p f k := rankTo_congr p k fun i hi => nth_take hi
    have hd : 0 < dim p k := by omega
    have hlt := rank_lt p (f := f) k (fun i hi => h.2 i (by omega))
    unfold nextK
    rw [nextK_spec p k _ hok, hr]
    obtain ⟨x, hx⟩ : ∃ x, x = (nth f k).toNat := ⟨_, rfl⟩
    have hxi : nth f k = x := by omega
    have hxd : x < dim p k := by omega
    generalize hR : rankTo p f k = R at *
    have e0 : rankTo p f (k + 1) = R * dim p k + x := by unfold rankTo; rw [hR, hx]
    by_cases hc : nth f k + 1 < dim p k
    · have hc' : x + 1 < dim p k := by omega
      have e1 : (R * dim p k + x + 1) / dim p k = R := by rw [Nat.add_assoc, Nat.mul_comm, Nat.mul_add_div hd, Nat.div_eq_of_lt hc', Nat.add_zero]
      have e2 : (R * dim p k + x + 1) % dim p k = x + 1 := by rw [Nat.add_assoc, Nat.mul_comm, Nat.mul_add_mod, Nat.mod_eq_of_lt hc']
      have e3 : R * dim p k + x + 1 < prodTo p (k + 1) := by
        unfold prodTo
        calc R * dim p k + x + 1 < R * dim p k + dim p k := by omega
          _ = (R + 1) * dim p k := by rw [Nat.add_mul, Nat.one_mul]
          _ ≤ prodTo p k * dim p k := Nat.mul_le_mul_right _ hlt
      rw [if_pos hc, e0, if_pos e3]
      rw [unr_succ, e1, e2]
      have e4 := unr_rank p (f := f) k (by have := h.1; omega) (fun i hi => h.2 i (by omega))
      rw [hR] at e4
      rw [e4, hxi]
      rfl
    · have hc' : x + 1 = dim p k := by omega
      have e1 : R * dim p k + x + 1 = (R + 1) * dim p k := by rw [Nat.add_mul, Nat.one_mul]; omega
      rw [if_neg hc, e0, e1, prodTo_succ]
      by_cases hp : R + 1 < prodTo p k
      · rw [if_pos hp, if_pos (Nat.mul_lt_mul_of_pos_right hp hd)]
        rw [unr_succ, Nat.mul_div_cancel _ hd, Nat.mul_mod_left]
        rfl
      · rw [if_neg hp, if_neg (fun h => hp (Nat.lt_of_mul_lt_mul_right h))]
        rfl

/-- how the loop of the next filling stands: from j on all choices were the last ones, and are 0 now -/
theorem nextK_skip (p : Prob) {f : List Int} : ∀ n j, j ≤ n → n ≤ f.length → (∀ i, j ≤ i → i < n → ¬ nth f i + 1 < dim p i) → nextK p n (f.take n) = (nextK p j (f.take j)).map (· ++ List.replicate (n - j) 0)
  | 0, j, hj, _, _ => by obtain rfl : j = 0 := by omega
                         simp [nextK]
  | n + 1, j, hj, hn, h => by
    rcases Nat.lt_or_ge j (n + 1) with hlt | hge
    · have h1 := h n (by omega) (by omega)
      have e : n + 1 - j = (n - j) + 1 := by omega
      show (if _ then _ else _) = _
      rw [nth_take (by omega), if_neg h1, List.take_take, Nat.min_eq_left (by omega), nextK_skip p n j (by omega) (by omega) (fun i hi hi' => h i hi (by omega)), e, List.replicate_succ']
      cases nextK p j (f.take j) <;> simp
    · obtain rfl : j = n + 1 := by omega
      simp
theorem nextF_stop (p : Prob) {f : List Int} {j : Nat} (hj : j < f.length) (hlt : nth f j + 1 < dim p j) (h : ∀ i, j + 1 ≤ i → i < f.length → ¬ nth f i + 1 < dim p i) :
    nextF p f = some (f.take j ++ [nth f j + 1] ++ List.replicate (f.length - (j + 1)) 0) := by
  unfold nextF
  have e := nextK_skip p (f := f) f.length (j + 1) (by omega) (Nat.le_refl _) h
  rw [List.take_length] at e
  rw [e]
  show (if _ then _ else _ : Option (List Int)).map _ = _
  rw [nth_take (by omega), if_pos hlt, List.take_take, Nat.min_eq_left (by omega)]
  rfl
theorem nextF_last (p : Prob) {f : List Int} (h : ∀ i, i < f.length → ¬ nth f i + 1 < dim p i) : nextF p f = none := by
  unfold nextF
  have e := nextK_skip p (f := f) f.length 0 (by omega) (Nat.le_refl _) (fun i _ hi => h i hi)
  rw [List.take_length] at e
  rw [e]; rfl

theorem nextF_stop' (p : Prob) {f : List Int} {j : Nat} (hj : j < f.length) (hlt : nth f j + 1 < dim p j) (h : ∀ i, j + 1 ≤ i → i < f.length → (dim p i : Int) ≤ nth f i + 1) :
    nextF p f = some (f.take j ++ [nth f j + 1] ++ List.replicate (f.length - (j + 1)) 0) := nextF_stop p hj hlt fun i h1 h2 => Int.not_lt.2 (h i h1 h2)
theorem nextF_last' (p : Prob) {f : List Int} (h : ∀ i, i < f.length → (dim p i : Int) ≤ nth f i + 1) : nextF p f = none := nextF_last p fun i h1 => Int.not_lt.2 (h i h1)
theorem all_from {P : Nat → Prop} {k n : Nat} (h : ∀ i, k + 1 ≤ i → i < n → P i) (hk : P k) : ∀ i, k ≤ i → i < n → P i := fun i h1 h2 => by
  rcases Nat.lt_or_ge k i with h3 | h3
  · exact h i h3 h2
  · obtain rfl : i = k := by omega
    exact hk

end Go.Proofs.Ytmpkbolabdmkkaa
