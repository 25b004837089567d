/- TABLES OF BOOLS that a call makes and writes. -/
import Derived.Test.YtmpkbolabdmkkaaBas2
namespace Go.Proofs.Ytmpkbolabdmkkaa
open Go.RowKit

theorem Try.info52 : (Try.prog.info? 52).map (fun i => (i.zero, i.size, i.bytes)) = some (some (.slice none 0 0), 1, 24) := by kernel_rfl

/-- t with place (i, k) set -/
def setTab (t : List (List Bool)) (i k : Nat) (b : Bool) : List (List Bool) := t.set i ((nth t i).set k b)
theorem setTab_len (t : List (List Bool)) (i k : Nat) (b : Bool) : (setTab t i k b).length = t.length := by simp [setTab]
theorem nth_set_same {α : Type} [Inhabited α] {l : List α} {i : Nat} (h : i < l.length) (x : α) : nth (l.set i x) i = x := by
  rw [nth_eq _ _ (by simpa using h)]; simp
theorem nth_set_other {α : Type} [Inhabited α] {l : List α} {i j : Nat} (h : j ≠ i) (x : α) : nth (l.set i x) j = nth l j := by
  unfold nth; rw [List.getD_eq_getElem?_getD, List.getD_eq_getElem?_getD, List.getElem?_set_ne (Ne.symm h)]
theorem nth_setTab_same {t : List (List Bool)} {i : Nat} (hi : i < t.length) (k : Nat) (b : Bool) : nth (setTab t i k b) i = (nth t i).set k b := nth_set_same hi _
theorem nth_setTab_other {t : List (List Bool)} {i j : Nat} (h : j ≠ i) (k : Nat) (b : Bool) : nth (setTab t i k b) j = nth t j := nth_set_other h _

/-- a table of the call's own: a row of rows, all of the call's own, apart from each other -/
structure OwnTab {W : World} (y : Later W) (v : Value) (t : List (List Bool)) (vs : List Value) : Prop where
  outer : y.w.ownsRow W.heap.size 52 1 v t.length vs
  len : vs.length = t.length
  rows : ∀ i, i < t.length → ∃ u, vs[i]? = some u ∧ y.w.ownsRow W.heap.size 4 1 u (nth t i).length ((nth t i).map Value.bool)
  apart : ∀ i j : Nat, i < j → ∀ u u' : Value, vs[i]? = some u → vs[j]? = some u' → ∀ b b', u.ownBlock = some b → u'.ownBlock = some b' → b < b'

theorem own_block_ne {w : World} {B B' e e' : Nat} {sz sz' n n' : Nat} {v v' : Value} {xs xs' : List Value} (h : w.ownsRow B e sz v n xs) (h' : w.ownsRow B' e' sz' v' n' xs') (hne : e ≠ e') : ∀ b, v.ownBlock = some b → v'.ownBlock ≠ some b := by
  intro b hb hb'
  rcases h.2 with ⟨rfl, _⟩ | ⟨g, cap, cur, rfl, _, hg, _⟩
  · cases hb
  rcases h'.2 with ⟨rfl, _⟩ | ⟨g', cap', cur', rfl, _, hg', _⟩
  · cases hb'
  simp only [Value.ownBlock, Option.some.injEq] at hb hb'
  subst hb
  subst hb'
  rw [hg] at hg'
  cases hg'
  exact hne rfl

theorem OwnTab.nil {W : World} (y : Later W) : OwnTab y (.slice none 0 0) [] [] :=
  ⟨World.ownsRow_nil _ _ _ _, rfl, fun _ h => absurd h (Nat.not_lt_zero _), fun _ _ _ _ _ h => by cases h⟩
theorem OwnTab.is {W : World} {y : Later W} {v : Value} {t : List (List Bool)} {vs : List Value} (h : OwnTab y v t vs) (hn : t.length ≤ 5864062014805) (hr : ∀ i, i < t.length → (nth t i).length ≤ 140737488355328) : IsBoolss y.w v t := by
  obtain ⟨a, c, hv, _, hc⟩ := owns_cell h.outer
  refine ⟨a, c, hv, hn, fun i hi => ?_⟩
  obtain ⟨b, ha, _, hb, hcell⟩ := hc i hi
  obtain ⟨u, hu, hI⟩ := h.rows i hi
  exact ⟨b, 0, ha, hb, u, hcell.trans hu, isBools_of_owns hI (hr i hi)⟩
theorem OwnTab.later {W : World} {y z : Later W} {v : Value} {t : List (List Bool)} {vs : List Value} (h : OwnTab y v t vs) (hb : Below y.w.heap.size y.w z.w) : OwnTab z v t vs :=
  ⟨owns_later h.outer hb, h.len, fun i hi => let ⟨u, hu, hI⟩ := h.rows i hi; ⟨u, hu, owns_later hI hb⟩, h.apart⟩
theorem OwnTab.slice {W : World} {y : Later W} {v : Value} {t : List (List Bool)} {vs : List Value} (h : OwnTab y v t vs) : ∃ a c, v = .slice a t.length c := owns_slice h.outer

/-- 'out = append(out, row)': the row was made after all others -/
theorem wpList_appTab {ops : Array Oper} {rest : List Oper} {o : Oper} {a : Act} {Q : Exit → Act → World → Prop} {W : World} (y : Later W) (hgd : o.guard = none) (s x : Operand) (ho : o.op = .call { callee := .builtin .append, args := #[s, x], argTypes := #[48, 48] })
    (v : Value) (t : List (List Bool)) (vs : List Value) (hs : a.eval s = v) (hown : OwnTab y v t vs) (u : Value) (g : List Bool) (B : Nat) (hB : W.heap.size ≤ B) (hu : y.w.ownsRow B 4 1 u g.length (g.map Value.bool))
    (hlt : ∀ (i : Nat) (q : Value) (b : Nat), vs[i]? = some q → q.ownBlock = some b → b < B) (hx : a.eval x = .slice (some ⟨y.w.heap.size, 0, none⟩) 1 1) (hn : t.length ≤ 65536)
    (h : ∀ v' (z : Later W), OwnTab z v' (t ++ [g]) (vs ++ [u]) → wpList Try.prog ops Q rest (a.put o.dst v') z.w) :
    wpList Try.prog ops Q (o :: rest) a (y.w.alloc (.cells #[u] 52)) := by
  have hu1 : u.oneCell' = true := by obtain ⟨A, c, rfl⟩ := owns_slice hu; rfl
  refine wpList_app1 y 48 52 _ 24 Try.info52 rfl Try.underlying48 hgd s x ho v t.length vs hs hown.outer u hx hu1 (by omega) (by omega) fun v' z hown' hg => ?_
  have hb1 : Below y.w.heap.size y.w (y.w.alloc (.cells #[u] 52)) := below_alloc1 _ _
  have keep : ∀ {B' n : Nat} {q : Value} {xs : List Value}, y.w.ownsRow B' 4 1 q n xs → z.w.ownsRow B' 4 1 q n xs := fun hq => by
    refine (owns_later hq hb1).kept hg ?_
    cases hq' : v.ownBlock with
    | none =>
      cases hqb : Value.ownBlock _ with
      | none => exact .inl rfl
      | some b => exact .inr (by simp)
    | some b => exact .inr (own_block_ne hown.outer hq (by decide) b hq')
  refine h v' z ⟨by rw [List.length_append]; exact hown', by simp [hown.len], fun i hi => ?_, fun i j hij q q' hq hq' b b' hb hb' => ?_⟩
  · rcases Nat.lt_or_ge i t.length with h1 | h1
    · obtain ⟨q, hq, hI⟩ := hown.rows i h1
      exact ⟨q, by rw [List.getElem?_append_left (by rw [hown.len]; omega)]; exact hq, by rw [nth_append_left h1]; exact keep hI⟩
    · obtain rfl : i = t.length := by simp at hi; omega
      exact ⟨u, by rw [List.getElem?_append_right (by rw [hown.len]; omega)]; simp [hown.len], by rw [nth_snoc]; exact owns_mono (keep hu) hB⟩
  · have hj : j < (vs ++ [u]).length := (List.getElem?_eq_some_iff.1 hq').1
    have hi : i < vs.length := by simp at hj; omega
    rw [List.getElem?_append_left hi] at hq
    rcases Nat.lt_or_ge j vs.length with h1 | h1
    · rw [List.getElem?_append_left h1] at hq'
      exact hown.apart i j hij q q' hq hq' b b' hb hb'
    · rw [List.getElem?_append_right h1] at hq'
      obtain rfl : j = vs.length := by simp at hj; omega
      simp at hq'
      subst hq'
      have := hlt i q b hq hb
      have := (hu.lt b' hb').1
      omega

/-- the table, opened at row i and place k, and written there -/
theorem OwnTab.at_ {W : World} {y : Later W} {v : Value} {t : List (List Bool)} {vs : List Value} (h : OwnTab y v t vs) {i : Nat} (hi : i < t.length) :
    ∃ g c u, v = .slice (some ⟨g, 0, none⟩) t.length c ∧ g < y.w.heap.size ∧ vs[i]? = some u ∧ y.w.cell? ⟨g, i, none⟩ = some u ∧ y.w.ownsRow W.heap.size 4 1 u (nth t i).length ((nth t i).map Value.bool) ∧
      ∀ k, k < (nth t i).length → ∃ g' c', u = .slice (some ⟨g', 0, none⟩) (nth t i).length c' ∧ g' < y.w.heap.size ∧ y.w.cell? ⟨g', k, none⟩ = some (.bool (nth (nth t i) k)) ∧ y.w.frozen? ⟨g', k, none⟩ = false ∧
        ∀ b, ∃ z : Later W, y.w.setCell ⟨g', k, none⟩ (.bool b) = z.w ∧ OwnTab z v (setTab t i k b) vs := by
  obtain ⟨g, c, rfl, _, hg⟩ := owns_head h.outer (by omega)
  obtain ⟨u, hu, hI⟩ := h.rows i hi
  obtain ⟨d0, _, _, _⟩ := owns_at y h.outer i hi
  refine ⟨g, c, u, rfl, hg, hu, d0.trans hu, hI, fun k hk => ?_⟩
  obtain ⟨g', c', rfl, _, hg'⟩ := owns_head hI (by omega)
  obtain ⟨e0, e1, _, e3⟩ := owns_at y hI k hk
  refine ⟨g', c', rfl, hg', ?_, e1, fun b => ?_⟩
  · rw [e0, nth_eq _ k hk]; simp [hk]
  · obtain ⟨z, hz, hr, hgr⟩ := e3 (.bool b)
    have hne : ∀ j q, vs[j]? = some q → j ≠ i → q.ownBlock ≠ some g' := by
      intro j q hq hji hqb
      have hb' : (Value.slice (some ⟨g', 0, none⟩) (nth t i).length c').ownBlock = some g' := rfl
      rcases Nat.lt_or_ge j i with h1 | h1
      · have := h.apart j i h1 q _ hq hu g' g' hqb hb'; omega
      · have := h.apart i j (by omega) _ q hu hq g' g' hb' hqb; omega
    refine ⟨z, hz, ⟨by rw [setTab_len]; exact h.outer.kept hgr (.inr (fun e => own_block_ne h.outer hI (by decide) g' e rfl)), by rw [setTab_len]; exact h.len, fun j hj => ?_, h.apart⟩⟩
    rw [setTab_len] at hj
    by_cases hji : j = i
    · subst hji
      refine ⟨_, hu, ?_⟩
      rw [nth_setTab_same hi, List.length_set]
      have e : ((nth t j).set k b).map Value.bool = ((nth t j).map Value.bool).set k (.bool b) := by rw [List.map_set]
      rw [e]; exact hr
    · obtain ⟨q, hq, hq'⟩ := h.rows j hj
      refine ⟨q, hq, ?_⟩
      rw [nth_setTab_other hji]
      exact hq'.kept hgr (.inr (hne j q hq hji))
end Go.Proofs.Ytmpkbolabdmkkaa
