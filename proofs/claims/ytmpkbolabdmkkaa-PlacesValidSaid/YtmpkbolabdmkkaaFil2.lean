/- THE LIST OF ALL FILLINGS, of those that agree, and the product as both texts reckon it. -/
import Derived.Test.YtmpkbolabdmkkaaFill
namespace Go.Proofs.Ytmpkbolabdmkkaa

theorem valid_dim {p : Prob} (h : validP p = true) {i : Nat} (hi : i < p.opts.length) : 1 ≤ dim p i ∧ dim p i ≤ 256 := valid_opts h hi
theorem prodTo_pos {p : Prob} : ∀ k, (∀ i, i < k → 1 ≤ dim p i) → 1 ≤ prodTo p k
  | 0, _ => Nat.le_refl _
  | k + 1, h => by rw [prodTo_succ]; exact Nat.mul_pos (prodTo_pos k fun i hi => h i (by omega)) (h k (by omega))
theorem rspace_or {p : Prob} (h : ∀ i, i < p.opts.length → 1 ≤ dim p i) : ∀ k, k ≤ p.opts.length → rspaceTo p.opts k = prodTo p k ∨ (1125899906842624 < rspaceTo p.opts k ∧ 1125899906842624 < (prodTo p k : Int))
  | 0, _ => .inl rfl
  | k + 1, hk => by
    have hd := h k (by omega)
    have e : (nth p.opts k).length = dim p k := rfl
    have hge : prodTo p k ≤ prodTo p (k + 1) := by rw [prodTo_succ]; exact Nat.le_mul_of_pos_right _ hd
    unfold rspaceTo
    rcases rspace_or h k (by omega) with h1 | ⟨h1, h2⟩
    · split
      · left; rw [h1, e, prodTo_succ, Int.natCast_mul]
      · right; omega
    · rw [if_neg (by omega)]; right; omega
theorem rspace_total {p : Prob} (h : validP p = true) : rspace p = total p ∨ (1125899906842624 < rspace p ∧ 1125899906842624 < (total p : Int)) :=
  rspace_or (fun _ hi => (valid_dim h hi).1) _ (Nat.le_refl _)
theorem rspace_gt {p : Prob} (h : validP p = true) : 65536 < rspace p ↔ 65536 < total p := by
  rcases rspace_total h with h1 | ⟨h1, h2⟩ <;> omega
/-- the error of a problem of which all fillings are gone through -/
def largeE (p : Prob) : Int := if validP p = true then (if 65536 < total p then 2 else 0) else 70
theorem largeE_0 {p : Prob} : largeE p = 0 ↔ validP p = true ∧ total p ≤ 65536 := by
  unfold largeE; split
  · split <;> simp_all <;> omega
  · simp_all

/-- filling number r -/
def fill (p : Prob) (r : Nat) : List Int := unr p p.opts.length r
def fills (p : Prob) : List (List Int) := (List.range (total p)).map (fill p)
def agr (p : Prob) : List (List Int) := (fills p).filter (agreesB p)
theorem fills_len (p : Prob) : (fills p).length = total p := by simp [fills]
theorem nth_fills {p : Prob} {r : Nat} (h : r < total p) : nth (fills p) r = fill p r := by
  rw [nth_eq _ _ (by rw [fills_len]; exact h)]; simp [fills]
theorem fill_len (p : Prob) (r : Nat) : (fill p r).length = p.opts.length := unr_len p _ _
theorem fill_ok {p : Prob} (h : validP p = true) (r : Nat) : ∀ i, i < (fill p r).length → 0 ≤ nth (fill p r) i ∧ nth (fill p r) i < (nth p.opts i).length :=
  fun i hi => (unr_ok p p.opts.length r (fun _ hi => (valid_dim h hi).1)).2 i (by rwa [fill_len] at hi)
theorem fill_B {p : Prob} (h : validP p = true) (r : Nat) : fillB p (fill p r) = true := by
  rw [fillB_iff]; refine ⟨by rw [fill_len, valid_len h], fun i hi => wi_iff.2 ?_⟩
  have := fill_ok h r i hi; omega
theorem fill_next {p : Prob} (h : validP p = true) {r : Nat} (hr : r < total p) : nextF p (fill p r) = if r + 1 < total p then some (fill p (r + 1)) else none := by
  have hd : ∀ i, i < p.opts.length → 0 < dim p i := fun _ hi => (valid_dim h hi).1
  unfold nextF
  rw [fill_len, nextK_spec p _ (fill p r) (unr_ok p _ r hd)]
  have e : rankTo p (fill p r) p.opts.length = r := rank_unr p _ r hd hr
  rw [e]; rfl
theorem fill_0 (p : Prob) : fill p 0 = List.replicate p.opts.length 0 := by
  unfold fill
  generalize p.opts.length = n
  induction n with
  | zero => rfl
  | succ n ih => rw [unr_succ, Nat.zero_div, ih, Nat.zero_mod, List.replicate_succ']; rfl
theorem total_pos {p : Prob} (h : validP p = true) : 0 < total p := prodTo_pos _ fun _ hi => (valid_dim h hi).1
theorem mem_fills {p : Prob} {f : List Int} : f ∈ fills p ↔ ∃ r, r < total p ∧ f = fill p r := by
  unfold fills; rw [List.mem_map]; simp only [List.mem_range]
  exact ⟨fun ⟨r, h1, h2⟩ => ⟨r, h1, h2.symm⟩, fun ⟨r, h1, h2⟩ => ⟨r, h1, h2.symm⟩⟩
theorem agr_len (p : Prob) : (agr p).length ≤ total p := by have := List.length_filter_le (agreesB p) (fills p); rw [fills_len] at this; exact this
theorem agr_mem {p : Prob} (h : validP p = true) {f : List Int} (hf : f ∈ agr p) : fillB p f = true ∧ f.length = p.opts.length ∧ (∀ i, i < f.length → 0 ≤ nth f i ∧ nth f i < (nth p.opts i).length) ∧ agreesB p f = true := by
  unfold agr at hf
  obtain ⟨h1, h2⟩ := List.mem_filter.1 hf
  obtain ⟨r, _, rfl⟩ := mem_fills.1 h1
  exact ⟨fill_B h r, fill_len p r, fill_ok h r, h2⟩
theorem nth_mem {α : Type} [Inhabited α] {l : List α} {i : Nat} (h : i < l.length) : nth l i ∈ l := by rw [nth_eq l i h]; exact List.getElem_mem h

/-- those of the first k fillings that agree -/
def agrTo (p : Prob) (k : Nat) : List (List Int) := ((fills p).take k).filter (agreesB p)
theorem agrTo_yes {p : Prob} {k : Nat} (hk : k < (fills p).length) (h : agreesB p (nth (fills p) k) = true) : agrTo p (k + 1) = agrTo p k ++ [nth (fills p) k] := by
  unfold agrTo; rw [take_snoc_nth _ k hk, List.filter_append]; simp [h]
theorem agrTo_no {p : Prob} {k : Nat} (hk : k < (fills p).length) (h : agreesB p (nth (fills p) k) = false) : agrTo p (k + 1) = agrTo p k := by
  unfold agrTo; rw [take_snoc_nth _ k hk, List.filter_append]; simp [h]
theorem agrTo_all (p : Prob) : agrTo p (fills p).length = agr p := by unfold agrTo agr; rw [List.take_length]
theorem agrTo_len (p : Prob) (k : Nat) : (agrTo p k).length ≤ k := by
  unfold agrTo; exact Nat.le_trans (List.length_filter_le _ _) (by rw [List.length_take]; omega)

/-- the first list is before the second one, which is as long -/
def lessTo (a b : List Int) : Nat → Nat → Bool
  | 0, _ => false
  | n + 1, i => if nth a i ≠ nth b i then decide (nth a i < nth b i) else lessTo a b n (i + 1)
def lessB (a b : List Int) : Bool := lessTo a b a.length 0

/-- the first of some lists for which something holds -/
def firstOf (l : List (List Int)) (P : List Int → Bool) : Option (List Int) := l.find? P
def optL (o : Option (List Int)) : List Int := o.getD []

def firstE (p : Prob) : Int := if largeE p ≠ 0 then largeE p else if (agr p).length = 0 then 72 else 0
def firstL (p : Prob) : List Int := if firstE p = 0 then nth (agr p) 0 else []
def countV (p : Prob) : Int := if largeE p = 0 then (agr p).length else 0
def nextE (p : Prob) (f : List Int) : Int := if wrongC p f ≠ 0 then wrongC p f else if 65536 < total p then 2 else if ((agr p).find? (lessB f)).isSome then 0 else 3
def nextL (p : Prob) (f : List Int) : List Int := if nextE p f = 0 then optL ((agr p).find? (lessB f)) else []

end Go.Proofs.Ytmpkbolabdmkkaa
