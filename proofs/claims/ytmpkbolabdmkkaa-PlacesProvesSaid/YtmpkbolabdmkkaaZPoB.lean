/- WORDS for places' Only: the box that is filled, the rows that grow, appends as steps. -/
import Derived.Test.YtmpkbolabdmkkaaZo
import Derived.Test.YtmpkbolabdmkkaaZg
import Derived.Test.YtmpkbolabdmkkaaZPlY
import Derived.Deep.RegionLaw
namespace Go.Proofs.Ytmpkbolabdmkkaa
open Go.RowKit

/-- 'append(out, src...)' onto a row of the call's own, as a step of a region that draws its order -/
theorem step_appN {ops : Array Oper} {o : Oper} {a : Act} {w : World} {K : Act → World → Prop} {Q : Exit → Act → World → Prop} {E : Prop} (hgd : o.guard = none) (s x : Operand) (t : TypeId) (ho : o.op = .call { callee := .builtin .append, args := #[s, x], argTypes := #[t, t] })
    (e : TypeId) (z : Value) (sz bytes : Nat) (hinfo : (Try.prog.info? e).map (fun i => (i.zero, i.size, i.bytes)) = some (some z, sz, bytes)) (hz : z.cells.size = sz) (hsz : 0 < sz) (ht : Try.prog.underlying t = some (.slice e))
    (v : Value) (n : Nat) (xs : List Value) (B : Nat) (hown : w.ownsRow B e sz v n xs) (hB : B ≤ w.heap.size) (ad : Addr) (m c : Nat) (news : List Value) (hl : news.length = m * sz) (hs : a.eval s = v) (hx : a.eval x = .slice (some ad) m c)
    (hcells : ∀ j u, news[j]? = some u → w.cell? (ad.add j) = some u) (h1 : ∀ u ∈ news, u.oneCell' = true) (hn : (n + m) * bytes ≤ 140737488355328) (hn' : n + m ≤ 140737488355328)
    (hK : ∀ v' w', w'.ownsRow B e sz v' (n + m) (xs ++ news) → w.grownBy w' v.ownBlock → (v'.ownBlock = v.ownBlock ∨ v'.ownBlock = some w.heap.size) → K (a.put o.dst v') w') :
    if Region.wanted o (yielded ops a.tmps) = true then Oper.wp Try.prog o a w K Q else E := by
  have hw : Region.wanted o (yielded ops a.tmps) = true := by simp [Region.wanted, hgd]
  rw [if_pos hw]
  obtain ⟨i0, hi, hz0, hz1, hz2⟩ := info_parts hinfo
  obtain ⟨v', w', hrun, h2, h3, _, h5⟩ := run_append_own_at (P := Try.prog) w B t o.type e i0 z sz bytes ht hi hz0 hz1 hz2 hz hsz v n xs hown ad m c news hl hcells h1 (by unfold maxLen; omega) hn hB
  unfold Oper.wp
  simp [execOp, ho, resolve, invoke, builtin, hs, hx, hrun, Result.andThen]
  exact hK v' w' h2 h3 h5
theorem wpList_appX {ops : Array Oper} {rest : List Oper} {o : Oper} {a : Act} {w : World} {Q : Exit → Act → World → Prop} (hgd : o.guard = none) (s x : Operand) (t : TypeId) (ho : o.op = .call { callee := .builtin .append, args := #[s, x], argTypes := #[t, t] })
    (e : TypeId) (z : Value) (sz bytes : Nat) (hinfo : (Try.prog.info? e).map (fun i => (i.zero, i.size, i.bytes)) = some (some z, sz, bytes)) (hz : z.cells.size = sz) (hsz : 0 < sz) (ht : Try.prog.underlying t = some (.slice e))
    (v : Value) (n : Nat) (xs : List Value) (B : Nat) (hown : w.ownsRow B e sz v n xs) (hB : B ≤ w.heap.size) (ad : Addr) (m c : Nat) (news : List Value) (hl : news.length = m * sz) (hs : a.eval s = v) (hx : a.eval x = .slice (some ad) m c)
    (hcells : ∀ j u, news[j]? = some u → w.cell? (ad.add j) = some u) (h1 : ∀ u ∈ news, u.oneCell' = true) (hn : (n + m) * bytes ≤ 140737488355328) (hn' : n + m ≤ 140737488355328)
    (hK : ∀ v' w', w'.ownsRow B e sz v' (n + m) (xs ++ news) → w.grownBy w' v.ownBlock → (v'.ownBlock = v.ownBlock ∨ v'.ownBlock = some w.heap.size) → wpList Try.prog ops Q rest (a.put o.dst v') w') :
    wpList Try.prog ops Q (o :: rest) a w := by
  obtain ⟨i0, hi, hz0, hz1, hz2⟩ := info_parts hinfo
  obtain ⟨v', w', hrun, h2, h3, _, h5⟩ := run_append_own_at (P := Try.prog) w B t o.type e i0 z sz bytes ht hi hz0 hz1 hz2 hz hsz v n xs hown ad m c news hl hcells h1 (by unfold maxLen; omega) hn hB
  refine wpList_plain hgd fun K hKK => ?_
  unfold Oper.wp execOp
  simp only [ho, resolve, invoke, builtin, Sem.run_bind, Sem.run_pure, Result.andThen_ok, List.map_toArray, List.map_cons, List.map_nil, hs, hx, hrun]
  exact hKK _ _ (hK v' w' h2 h3 h5)

/-- the blocks that are written -/
def hidB (b : Nat) (g : Option Nat) (k : Nat) : Bool := decide (k ≤ b) || decide (g = some k)
theorem hidB_no {b : Nat} {g : Option Nat} {k : Nat} : hidB b g k = false ↔ b < k ∧ g ≠ some k := by
  unfold hidB; rw [Bool.or_eq_false_iff, decide_eq_false_iff_not, decide_eq_false_iff_not, Nat.not_le]

/-- a problem's three cells, in a box that is written -/
structure BoxAt (A : World) (b : Nat) (v0 v1 v2 : Value) : Prop where
  lt : b < A.heap.size
  c0 : A.cell? ⟨b, 0, none⟩ = some v0
  c1 : A.cell? ⟨b, 1, none⟩ = some v1
  c2 : A.cell? ⟨b, 2, none⟩ = some v2
  f0 : A.frozen? ⟨b, 0, none⟩ = false
  f1 : A.frozen? ⟨b, 1, none⟩ = false
  f2 : A.frozen? ⟨b, 2, none⟩ = false
theorem BoxAt.grown {A C : World} {b : Nat} {v0 v1 v2 : Value} (h : BoxAt A b v0 v1 v2) (hs : A.heap.size ≤ C.heap.size) (hk : C.heap[b]? = A.heap[b]?) : BoxAt C b v0 v1 v2 :=
  have hc : ∀ o, C.cell? ⟨b, o, none⟩ = A.cell? ⟨b, o, none⟩ := fun o => World.cell?_of_block (a := ⟨b, o, none⟩) hk
  have hf : ∀ o, C.frozen? ⟨b, o, none⟩ = A.frozen? ⟨b, o, none⟩ := fun o => World.frozen?_of_block (a := ⟨b, o, none⟩) hk
  ⟨Nat.lt_of_lt_of_le h.lt hs, (hc 0).trans h.c0, (hc 1).trans h.c1, (hc 2).trans h.c2, (hf 0).trans h.f0, (hf 1).trans h.f1, (hf 2).trans h.f2⟩
theorem BoxAt.below {A C : World} {b : Nat} {v0 v1 v2 : Value} (h : BoxAt A b v0 v1 v2) (hb : Below A.heap.size A C) : BoxAt C b v0 v1 v2 := h.grown hb.size (hb.block b h.lt)
theorem frozen_set (w : World) (p q : Addr) (v : Value) : (w.setCell p v).frozen? q = w.frozen? q := World.frozen?_setCell w p q v
theorem BoxAt.set1 {A : World} {b : Nat} {v0 v1 v2 : Value} (h : BoxAt A b v0 v1 v2) (u : Value) : BoxAt (A.setCell ⟨b, 1, none⟩ u) b v0 u v2 :=
  ⟨by simpa [World.setCell] using h.lt, (World.cell?_setCell_other _ _ _ _ (fun e => by cases e)).trans h.c0, World.cell?_setCell_same _ _ _ h.c1, (World.cell?_setCell_other _ _ _ _ (fun e => by cases e)).trans h.c2, (frozen_set _ _ _ _).trans h.f0, (frozen_set _ _ _ _).trans h.f1, (frozen_set _ _ _ _).trans h.f2⟩
theorem BoxAt.set2 {A : World} {b : Nat} {v0 v1 v2 : Value} (h : BoxAt A b v0 v1 v2) (u : Value) : BoxAt (A.setCell ⟨b, 2, none⟩ u) b v0 v1 u :=
  ⟨by simpa [World.setCell] using h.lt, (World.cell?_setCell_other _ _ _ _ (fun e => by cases e)).trans h.c0, (World.cell?_setCell_other _ _ _ _ (fun e => by cases e)).trans h.c1, World.cell?_setCell_same _ _ _ h.c2, (frozen_set _ _ _ _).trans h.f0, (frozen_set _ _ _ _).trans h.f1, (frozen_set _ _ _ _).trans h.f2⟩
theorem set_block {A : World} {b o k : Nat} {u : Value} (h : k ≠ b) : (A.setCell ⟨b, o, none⟩ u).heap[k]? = A.heap[k]? := Below.heap_setCell _ ⟨b, o, none⟩ _ _ h
theorem cov_set {P : Nat → Bool} {A : World} {b o : Nat} {u : Value} (h : P b = true) : Cov (wout P A) (wout P (A.setCell ⟨b, o, none⟩ u)) :=
  cov_out (by simp [World.setCell]) fun k _ hk => ⟨hk, set_block (fun e => by rw [e, h] at hk; cases hk)⟩

/-- lists of options, in a row that grows -/
structure OptRow (A : World) (b B : Nat) (v : Value) (l : List (List Opt)) : Prop where
  row : ∃ us, A.ownsRow B 39 1 v l.length us ∧ us.length = l.length ∧ ∀ i, i < l.length → ∃ u, us[i]? = some u ∧ IsOpts (wout (hidB b v.ownBlock) A) u (nth l i)
  ne : ∀ g, v.ownBlock = some g → b < g
theorem OptRow.nil (A : World) (b B : Nat) : OptRow A b B (.slice none 0 0) [] := ⟨⟨[], World.ownsRow_nil _ _ _ _, rfl, fun _ h => absurd h (Nat.not_lt_zero _)⟩, fun _ h => by cases h⟩
theorem OptRow.lt {A : World} {b B : Nat} {v : Value} {l : List (List Opt)} (h : OptRow A b B v l) : ∀ g, v.ownBlock = some g → B ≤ g ∧ g < A.heap.size := let ⟨_, h1, _⟩ := h.row; fun g hg => h1.lt g hg
theorem OptRow.below {A C : World} {b B : Nat} {v : Value} {l : List (List Opt)} (h : OptRow A b B v l) (hb : Below A.heap.size A C) : OptRow C b B v l :=
  let ⟨us, h1, h2, h3⟩ := h.row
  ⟨⟨us, owns_later h1 hb, h2, fun i hi => let ⟨u, hu, hI⟩ := h3 i hi; ⟨u, hu, hI.cov (cov_below hb)⟩⟩, h.ne⟩
theorem OptRow.set {A : World} {b B o : Nat} {v : Value} {l : List (List Opt)} (h : OptRow A b B v l) (u' : Value) : OptRow (A.setCell ⟨b, o, none⟩ u') b B v l :=
  let ⟨us, h1, h2, h3⟩ := h.row
  ⟨⟨us, owns_block h1 (fun g hg => set_block (fun e => by have := h.ne _ hg; omega)), h2, fun i hi => let ⟨u, hu, hI⟩ := h3 i hi; ⟨u, hu, hI.cov (cov_set (by simp [hidB]))⟩⟩, h.ne⟩
theorem OptRow.app {A w' : World} {b B n : Nat} {v v' : Value} {l : List (List Opt)} {us : List Value} (h2 : us.length = l.length) (h3 : ∀ i, i < l.length → ∃ u, us[i]? = some u ∧ IsOpts (wout (hidB b v.ownBlock) A) u (nth l i)) (hne : ∀ g, v.ownBlock = some g → b < g)
    (hb : b < n) (hv : ∀ g, v.ownBlock = some g → g < n) (u : Value) (g : List Opt) (hu : IsOpts (wout (fun k => decide (k < n)) A) u g) (hA : b < A.heap.size)
    (ho : w'.ownsRow B 39 1 v' (l.length + 1) (us ++ [u])) (hg : A.grownBy w' v.ownBlock) (h5 : v'.ownBlock = v.ownBlock ∨ v'.ownBlock = some A.heap.size) : OptRow w' b B v' (l ++ [g]) := by
  have hcov : Cov (wout (hidB b v.ownBlock) A) (wout (hidB b v'.ownBlock) w') := cov_out hg.size fun k hk hP => by
    obtain ⟨k1, k2⟩ := hidB_no.1 hP
    refine ⟨hidB_no.2 ⟨k1, ?_⟩, hg.block k hk (Ne.symm k2)⟩
    rcases h5 with h5 | h5
    · rw [h5]; exact k2
    · rw [h5]; intro e; cases e; omega
  have hcov2 : Cov (wout (fun k => decide (k < n)) A) (wout (hidB b v.ownBlock) A) := cov_fresh fun k hk => hidB_no.2 ⟨by omega, fun e => by have := hv k e; omega⟩
  refine ⟨⟨us ++ [u], by rw [List.length_append]; exact ho, by simp [h2], fun i hi => ?_⟩, ?_⟩
  · rcases Nat.lt_or_ge i l.length with hl | hl
    · obtain ⟨q, hq, hI⟩ := h3 i hl
      exact ⟨q, by rw [List.getElem?_append_left (by omega)]; exact hq, by rw [nth_append_left hl]; exact hI.cov hcov⟩
    · obtain rfl : i = l.length := by simp at hi; omega
      exact ⟨u, by rw [List.getElem?_append_right (by omega)]; simp [h2], by rw [nth_snoc]; exact (hu.cov hcov2).cov hcov⟩
  · rcases h5 with h5 | h5
    · rw [h5]; exact hne
    · rw [h5]; intro q e; cases e; exact hA
theorem OptRow.is {A : World} {b B : Nat} {v : Value} {l : List (List Opt)} (h : OptRow A b B v l) (hn : l.length ≤ 5864062014805) : IsOptss (wout (hidB b none) A) v l := by
  obtain ⟨us, h1, h2, h3⟩ := h.row
  obtain ⟨a, c, hv, _, hc⟩ := owns_cellN (owns_out h1 (P := hidB b none) (fun g hg => hidB_no.2 ⟨h.ne g hg, by simp⟩))
  refine ⟨a, c, hv, hn, fun i hi => ?_⟩
  obtain ⟨g, ha, _, hg, _, hcell⟩ := hc i (by omega)
  obtain ⟨u, hu, hI⟩ := h3 i hi
  refine ⟨g, 0, ha, hg, u, by rw [Nat.zero_add]; exact hcell.trans hu, hI.cov (cov_out (Nat.le_refl _) fun k _ hk => ⟨hidB_no.2 ⟨(hidB_no.1 hk).1, by simp⟩, rfl⟩)⟩

/-- the cells of a rule -/
def rlCells (x : Rl × Value × Value × Value) : List Value := [.int .i64 x.1.item, .int .i64 x.1.kind, x.2.1, x.2.2.1, .int .i64 x.1.lo, .int .i64 x.1.hi, x.2.2.2]
/-- rules, in a row that grows -/
structure RulRow (A : World) (b B : Nat) (v : Value) (l : List Rl) : Prop where
  row : ∃ us : List (Rl × Value × Value × Value), A.ownsRow B 87 7 v l.length (us.flatMap rlCells) ∧ us.map Prod.fst = l ∧ ∀ x ∈ us, IsRl (wout (hidB b v.ownBlock) A) x.2.1 x.2.2.1 x.2.2.2 x.1
  ne : ∀ g, v.ownBlock = some g → b < g
theorem RulRow.nil (A : World) (b B : Nat) : RulRow A b B (.slice none 0 0) [] := ⟨⟨[], World.ownsRow_nil _ _ _ _, rfl, fun _ h => by cases h⟩, fun _ h => by cases h⟩
theorem RulRow.below {A C : World} {b B : Nat} {v : Value} {l : List Rl} (h : RulRow A b B v l) (hb : Below A.heap.size A C) : RulRow C b B v l :=
  let ⟨us, h1, h2, h3⟩ := h.row
  ⟨⟨us, owns_later h1 hb, h2, fun x hx => (h3 x hx).cov (cov_below hb)⟩, h.ne⟩
theorem RulRow.set {A : World} {b B o : Nat} {v : Value} {l : List Rl} (h : RulRow A b B v l) (u' : Value) : RulRow (A.setCell ⟨b, o, none⟩ u') b B v l :=
  let ⟨us, h1, h2, h3⟩ := h.row
  ⟨⟨us, owns_block h1 (fun g hg => set_block (fun e => by have := h.ne _ hg; omega)), h2, fun x hx => (h3 x hx).cov (cov_set (by simp [hidB]))⟩, h.ne⟩
theorem RulRow.app {A w' : World} {b B n : Nat} {v v' : Value} {l : List Rl} {us : List (Rl × Value × Value × Value)} (h2 : us.map Prod.fst = l) (h3 : ∀ x ∈ us, IsRl (wout (hidB b v.ownBlock) A) x.2.1 x.2.2.1 x.2.2.2 x.1) (hne : ∀ g, v.ownBlock = some g → b < g)
    (hb : b < n) (hv : ∀ g, v.ownBlock = some g → g < n) (u2 u3 u6 : Value) (g : Rl) (hu : IsRl (wout (fun k => decide (k < n)) A) u2 u3 u6 g) (hA : b < A.heap.size)
    (ho : w'.ownsRow B 87 7 v' (l.length + 1) (us.flatMap rlCells ++ rlCells (g, u2, u3, u6))) (hg : A.grownBy w' v.ownBlock) (h5 : v'.ownBlock = v.ownBlock ∨ v'.ownBlock = some A.heap.size) : RulRow w' b B v' (l ++ [g]) := by
  have hcov : Cov (wout (hidB b v.ownBlock) A) (wout (hidB b v'.ownBlock) w') := cov_out hg.size fun k hk hP => by
    obtain ⟨k1, k2⟩ := hidB_no.1 hP
    refine ⟨hidB_no.2 ⟨k1, ?_⟩, hg.block k hk (Ne.symm k2)⟩
    rcases h5 with h5 | h5
    · rw [h5]; exact k2
    · rw [h5]; intro e; cases e; omega
  have hcov2 : Cov (wout (fun k => decide (k < n)) A) (wout (hidB b v.ownBlock) A) := cov_fresh fun k hk => hidB_no.2 ⟨by omega, fun e => by have := hv k e; omega⟩
  refine ⟨⟨us ++ [(g, u2, u3, u6)], by rw [List.length_append, List.flatMap_append, List.flatMap_cons, List.flatMap_nil, List.append_nil]; exact ho, by rw [List.map_append, h2]; rfl, fun x hx => ?_⟩, ?_⟩
  · rcases List.mem_append.1 hx with hx | hx
    · exact (h3 x hx).cov hcov
    · rw [List.mem_singleton] at hx; subst hx
      exact (hu.cov hcov2).cov hcov
  · rcases h5 with h5 | h5
    · rw [h5]; exact hne
    · rw [h5]; intro q e; cases e; exact hA
theorem RulRow.is {A : World} {b B : Nat} {v : Value} {l : List Rl} (h : RulRow A b B v l) (hn : l.length ≤ 1400000000000) : IsRules (wout (hidB b none) A) v l := by
  obtain ⟨us, h1, h2, h3⟩ := h.row
  have hlen : us.length = l.length := by rw [← h2, List.length_map]
  have hcv : Cov (wout (hidB b v.ownBlock) A) (wout (hidB b none) A) := cov_out (Nat.le_refl _) fun k _ hk => ⟨hidB_no.2 ⟨(hidB_no.1 hk).1, by simp⟩, rfl⟩
  obtain ⟨a, c, hv, _, hc⟩ := owns_cellN (owns_out h1 (P := hidB b none) (fun g hg => hidB_no.2 ⟨h.ne g hg, by simp⟩))
  refine ⟨a, c, hv, hn, fun i hi => ?_⟩
  have hx : nth us i ∈ us := nth_mem (by omega)
  have hx1 : (nth us i).1 = nth l i := by
    rw [← h2, nth_eq _ _ (by omega), nth_eq _ _ (by rw [List.length_map]; omega), List.getElem_map]
  have key : ∀ j, j < 7 → ∃ g, a = some ⟨g, 0, none⟩ ∧ g < (wout (hidB b none) A).heap.size ∧ (wout (hidB b none) A).cell? ⟨g, i * 7 + j, none⟩ = (rlCells (nth us i))[j]? := fun j hj => by
    obtain ⟨g, ha, _, hg, _, e⟩ := hc (i * 7 + j) (by omega)
    exact ⟨g, ha, hg, e.trans (flat_at rlCells (fun _ => rfl) us i j (by omega) hj)⟩
  obtain ⟨g, ha, hg, e0⟩ := key 0 (by omega)
  subst ha
  have kk : ∀ j, j < 7 → (wout (hidB b none) A).cell? ⟨g, 0 + i * 7 + j, none⟩ = (rlCells (nth us i))[j]? := fun j hj => by
    obtain ⟨g', ha, _, e⟩ := key j hj
    cases ha
    rw [Nat.zero_add]; exact e
  rw [← hx1]
  exact ⟨g, 0, rfl, hg, _, _, _, kk 0 (by omega), kk 1 (by omega), kk 2 (by omega), kk 3 (by omega), kk 4 (by omega), kk 5 (by omega), kk 6 (by omega), ((h3 _ hx).cov hcv).panes, ((h3 _ hx).cov hcv).hits, ((h3 _ hx).cov hcv).ok⟩
end Go.Proofs.Ytmpkbolabdmkkaa
