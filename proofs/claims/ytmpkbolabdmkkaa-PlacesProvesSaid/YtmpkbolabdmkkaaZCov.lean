/- MEMORY WITH SOME BLOCKS BLANKED: what does not lie in them reads as before, whatever is written there. -/
import Derived.Test.YtmpkbolabdmkkaaZa
namespace Go.Proofs.Ytmpkbolabdmkkaa
open Go.RowKit

/-- what is found in w is found in w' -/
structure Cov (w w' : World) : Prop where
  size : w.heap.size ≤ w'.heap.size
  cell : ∀ (b o : Nat) (u : Value), w.cell? ⟨b, o, none⟩ = some u → w'.cell? ⟨b, o, none⟩ = some u
section cov
variable {w w' : World} (hc : Cov w w')
include hc
theorem IsInts.cov {v : Value} {l : List Int} (h : IsInts w v l) : IsInts w' v l :=
  let ⟨a, c, hv, hl, h⟩ := h
  ⟨a, c, hv, hl, fun i hi => let ⟨b, o, ha, hb, e⟩ := h i hi; ⟨b, o, ha, Nat.lt_of_lt_of_le hb hc.size, hc.cell _ _ _ e⟩⟩
theorem IsBools.cov {v : Value} {l : List Bool} (h : IsBools w v l) : IsBools w' v l :=
  let ⟨a, c, hv, hl, h⟩ := h
  ⟨a, c, hv, hl, fun i hi => let ⟨b, o, ha, hb, e⟩ := h i hi; ⟨b, o, ha, Nat.lt_of_lt_of_le hb hc.size, hc.cell _ _ _ e⟩⟩
theorem OptAt.cov {b o : Nat} {x : Opt} (h : OptAt w b o x) : OptAt w' b o x := ⟨hc.cell _ _ _ h.1, hc.cell _ _ _ h.2.1, hc.cell _ _ _ h.2.2.1, hc.cell _ _ _ h.2.2.2⟩
theorem IsOpts.cov {v : Value} {l : List Opt} (h : IsOpts w v l) : IsOpts w' v l :=
  let ⟨a, c, hv, hl, h⟩ := h
  ⟨a, c, hv, hl, fun i hi => let ⟨b, o, ha, hb, e⟩ := h i hi; ⟨b, o, ha, Nat.lt_of_lt_of_le hb hc.size, OptAt.cov hc e⟩⟩
theorem IsOptss.cov {v : Value} {l : List (List Opt)} (h : IsOptss w v l) : IsOptss w' v l :=
  let ⟨a, c, hv, hl, h⟩ := h
  ⟨a, c, hv, hl, fun i hi => let ⟨b, o, ha, hb, u, e, hu⟩ := h i hi; ⟨b, o, ha, Nat.lt_of_lt_of_le hb hc.size, u, hc.cell _ _ _ e, IsOpts.cov hc hu⟩⟩
theorem IsBoolss.cov {v : Value} {l : List (List Bool)} (h : IsBoolss w v l) : IsBoolss w' v l :=
  let ⟨a, c, hv, hl, h⟩ := h
  ⟨a, c, hv, hl, fun i hi => let ⟨b, o, ha, hb, u, e, hu⟩ := h i hi; ⟨b, o, ha, Nat.lt_of_lt_of_le hb hc.size, u, hc.cell _ _ _ e, IsBools.cov hc hu⟩⟩
theorem IsRl.cov {v0 v1 v2 : Value} {p : Rl} (h : IsRl w v0 v1 v2 p) : IsRl w' v0 v1 v2 p := ⟨h.panes.cov hc, h.hits.cov hc, h.ok.cov hc⟩
theorem RlAt.cov {b o : Nat} {x : Rl} (h : RlAt w b o x) : RlAt w' b o x :=
  let ⟨u2, u3, u6, h0, h1, h2, h3, h4, h5, h6, i2, i3, i6⟩ := h
  ⟨u2, u3, u6, hc.cell _ _ _ h0, hc.cell _ _ _ h1, hc.cell _ _ _ h2, hc.cell _ _ _ h3, hc.cell _ _ _ h4, hc.cell _ _ _ h5, hc.cell _ _ _ h6, i2.cov hc, i3.cov hc, i6.cov hc⟩
theorem IsRules.cov {v : Value} {l : List Rl} (h : IsRules w v l) : IsRules w' v l :=
  let ⟨a, c, hv, hl, h⟩ := h
  ⟨a, c, hv, hl, fun i hi => let ⟨b, o, ha, hb, e⟩ := h i hi; ⟨b, o, ha, Nat.lt_of_lt_of_le hb hc.size, RlAt.cov hc e⟩⟩
theorem IsProb.cov {v0 v1 v2 : Value} {p : Prob} (h : IsProb w v0 v1 v2 p) : IsProb w' v0 v1 v2 p := ⟨h.panes.cov hc, h.opts.cov hc, h.rules.cov hc⟩
end cov

/-- the world with some blocks blanked -/
def wout (P : Nat → Bool) (w : World) : World := { w with heap := w.heap.mapIdx fun k o => if P k = true then .cells #[] 0 else o }
theorem wout_size (P : Nat → Bool) (w : World) : (wout P w).heap.size = w.heap.size := by simp [wout]
theorem wout_block {P : Nat → Bool} {w : World} {k : Nat} (h : P k = false) : (wout P w).heap[k]? = w.heap[k]? := by
  simp [wout, Array.getElem?_mapIdx, h]
theorem wout_blank {P : Nat → Bool} {w : World} {k o : Nat} (h : P k = true) : (wout P w).cell? ⟨k, o, none⟩ = none := by
  unfold World.cell? wout
  simp only [Array.getElem?_mapIdx, h, if_true]
  cases w.heap[k]? <;> simp
/-- what lies outside some blocks lies outside others, too, where these are all that was written or are free -/
theorem cov_out {P P' : Nat → Bool} {w w' : World} (hs : w.heap.size ≤ w'.heap.size) (h : ∀ k, k < w.heap.size → P k = false → P' k = false ∧ w'.heap[k]? = w.heap[k]?) : Cov (wout P w) (wout P' w') := by
  refine ⟨by rw [wout_size, wout_size]; exact hs, fun b o u e => ?_⟩
  cases hP : P b
  · have hlt : b < w.heap.size := by
      rcases Nat.lt_or_ge b w.heap.size with h1 | h1
      · exact h1
      · unfold World.cell? at e
        rw [wout_block hP, Array.getElem?_eq_none (by simpa using h1)] at e
        cases e
    obtain ⟨h1, h2⟩ := h b hlt hP
    rw [← e]
    exact World.cell?_of_block (a := ⟨b, o, none⟩) ((wout_block h1).trans (h2.trans (wout_block hP).symm))
  · rw [wout_blank hP] at e; cases e
theorem cov_all (P : Nat → Bool) (w : World) : Cov (wout P w) w := by
  have h := @cov_out P (fun _ => false) w w (Nat.le_refl _) (fun k _ _ => ⟨rfl, rfl⟩)
  refine ⟨by rw [wout_size]; exact Nat.le_refl _, fun b o u e => ?_⟩
  have := h.cell b o u e
  rw [← this]
  exact (World.cell?_of_block (a := ⟨b, o, none⟩) (wout_block rfl)).symm
theorem cov_below {P : Nat → Bool} {w w' : World} (hb : Below w.heap.size w w') : Cov (wout P w) (wout P w') := cov_out hb.size fun k hk hP => ⟨hP, hb.block k hk⟩

/-- a row of the call's own, seen where other blocks are blanked -/
theorem owns_out {P : Nat → Bool} {w : World} {B : Nat} {e : TypeId} {sz n : Nat} {v : Value} {xs : List Value} (h : w.ownsRow B e sz v n xs) (hP : ∀ b, v.ownBlock = some b → P b = false) : (wout P w).ownsRow B e sz v n xs := by
  refine ⟨h.1, ?_⟩
  rcases h.2 with h0 | ⟨g, cap, cur, rfl, h2, h3, h4⟩
  · exact .inl h0
  · exact .inr ⟨g, cap, cur, rfl, h2, (wout_block (hP g rfl)).trans h3, h4⟩
theorem owns_cellN {w : World} {B : Nat} {e : TypeId} {sz : Nat} {v : Value} {n : Nat} {xs : List Value} (h : w.ownsRow B e sz v n xs) :
    ∃ a c, v = .slice a n c ∧ xs.length = n * sz ∧ ∀ j, j < n * sz → ∃ g, a = some ⟨g, 0, none⟩ ∧ B ≤ g ∧ g < w.heap.size ∧ v.ownBlock = some g ∧ w.cell? ⟨g, j, none⟩ = xs[j]? := by
  have hl := h.1
  rcases id h.2 with ⟨rfl, rfl⟩ | ⟨g, cap, cur, rfl, hb, hg, _⟩
  · exact ⟨none, 0, rfl, hl, fun i hi => by simp at hi⟩
  · refine ⟨_, cap, rfl, hl, fun i hi => ⟨g, rfl, hb, (Array.getElem?_eq_some_iff.1 hg).1, rfl, ?_⟩⟩
    have := h.cells (g := g) rfl i xs[i] (by simp [hl, hi])
    have hadd : (⟨g, 0, none⟩ : Addr).add i = ⟨g, 0 + i, none⟩ := by unfold Addr.add; split <;> simp_all
    rw [hadd, Nat.zero_add] at this
    rw [this]; simp [hl, hi]
theorem flat_len {α β : Type} (f : α → List β) {s : Nat} (hf : ∀ x, (f x).length = s) : ∀ l : List α, (l.flatMap f).length = l.length * s
  | [] => by simp
  | x :: l => by rw [List.flatMap_cons, List.length_append, hf, flat_len f hf l, List.length_cons, Nat.add_mul]; omega
theorem flat_at {α β : Type} [Inhabited α] (f : α → List β) {s : Nat} (hf : ∀ x, (f x).length = s) : ∀ (l : List α) (i c : Nat), i < l.length → c < s → (l.flatMap f)[i * s + c]? = (f (nth l i))[c]?
  | [], i, c, hi, _ => by simp at hi
  | x :: l, 0, c, _, hc => by
    rw [List.flatMap_cons, List.getElem?_append_left (by rw [hf]; omega), Nat.zero_mul, Nat.zero_add]; rfl
  | x :: l, i + 1, c, hi, hc => by
    rw [List.flatMap_cons, List.getElem?_append_right (by rw [hf, Nat.add_mul]; omega), hf]
    rw [show (i + 1) * s + c - s = i * s + c by rw [Nat.add_mul]; omega]
    exact flat_at f hf l i c (by simpa using hi) hc

/-- the cells of an option -/
def optCells (o : Opt) : List Value := [.int .i64 o.piece, .int .i64 o.shift, .bool o.back, .int .i64 o.colour]
theorem isOpts_of_owns {w : World} {B : Nat} {e : TypeId} {v : Value} {l : List Opt} (h : w.ownsRow B e 4 v l.length (l.flatMap optCells)) (hn : l.length ≤ 4398046511104) : IsOpts w v l := by
  obtain ⟨a, c, hv, _, hc⟩ := owns_cellN h
  refine ⟨a, c, hv, hn, fun i hi => ?_⟩
  have key : ∀ j, j < 4 → ∃ g, a = some ⟨g, 0, none⟩ ∧ g < w.heap.size ∧ w.cell? ⟨g, i * 4 + j, none⟩ = (optCells (nth l i))[j]? := fun j hj => by
    obtain ⟨g, ha, _, hg, _, e⟩ := hc (i * 4 + j) (by omega)
    exact ⟨g, ha, hg, e.trans (flat_at optCells (fun _ => rfl) l i j hi hj)⟩
  obtain ⟨g, ha, hg, e0⟩ := key 0 (by omega)
  obtain ⟨_, ha1, _, e1⟩ := key 1 (by omega)
  obtain ⟨_, ha2, _, e2⟩ := key 2 (by omega)
  obtain ⟨_, ha3, _, e3⟩ := key 3 (by omega)
  subst ha
  cases ha1; cases ha2; cases ha3
  refine ⟨g, 0, rfl, hg, ?_, ?_, ?_, ?_⟩
  · rw [Nat.zero_add]; exact e0
  · rw [Nat.zero_add]; exact e1
  · rw [Nat.zero_add]; exact e2
  · rw [Nat.zero_add]; exact e3
/-- a table of the call's own lies in what it made -/
theorem OwnTab.fresh {W : World} {y : Later W} {v : Value} {t : List (List Bool)} {vs : List Value} (h : OwnTab y v t vs) (hn : t.length ≤ 5864062014805) (hr : ∀ i, i < t.length → (nth t i).length ≤ 140737488355328) : IsBoolss (wout (fun k => decide (k < W.heap.size)) y.w) v t := by
  have hP : ∀ {e : TypeId} {n : Nat} {q : Value} {xs : List Value}, y.w.ownsRow W.heap.size e 1 q n xs → ∀ b, q.ownBlock = some b → decide (b < W.heap.size) = false := fun hq b hb => by
    have := (hq.lt b hb).1
    rw [decide_eq_false_iff_not]; omega
  obtain ⟨a, c, hv, _, hc⟩ := owns_cell (owns_out h.outer (P := fun k => decide (k < W.heap.size)) (hP h.outer))
  refine ⟨a, c, hv, hn, fun i hi => ?_⟩
  obtain ⟨b, ha, _, hb, hcell⟩ := hc i hi
  obtain ⟨u, hu, hI⟩ := h.rows i hi
  exact ⟨b, 0, ha, hb, u, hcell.trans hu, isBools_of_owns (owns_out hI (hP hI)) (hr i hi)⟩
theorem owns_fresh {W : World} {y : Later W} {e : TypeId} {sz n : Nat} {v : Value} {xs : List Value} (h : y.w.ownsRow W.heap.size e sz v n xs) : (wout (fun k => decide (k < W.heap.size)) y.w).ownsRow W.heap.size e sz v n xs :=
  owns_out h fun b hb => by
    have := (h.lt b hb).1
    rw [decide_eq_false_iff_not]; omega
/-- what lies in what was made since lies outside elder blocks -/
theorem cov_fresh {n : Nat} {P : Nat → Bool} {w : World} (h : ∀ k, n ≤ k → P k = false) : Cov (wout (fun k => decide (k < n)) w) (wout P w) :=
  cov_out (Nat.le_refl _) fun k _ hk => ⟨h k (by rw [decide_eq_false_iff_not] at hk; omega), rfl⟩
end Go.Proofs.Ytmpkbolabdmkkaa
