/- MORE WORDS FOR MEMORY: appends of many cells, stores into rows of the call's own, lists of lists of numbers. -/
import Derived.Test.YtmpkbolabdmkkaaBase
import Derived.Test.YtmpkbolabdmkkaaFill
namespace Go.Proofs.Ytmpkbolabdmkkaa
open Go.RowKit

theorem run_app_nil {P : Program} (w : World) (base : Nat) (t ty e : TypeId) (i : TypeInfo) (size : Nat) (ht : P.underlying t = some (.slice e)) (hi : P.info? e = some i)
    (v : Value) (n : Nat) (xs : List Value) (hown : w.ownsRow base e size v n xs) (c : Nat) : (Builtin.append_ #[t, t] ty #[v, .slice none 0 c]).run P w = .ok v w := by
  rcases hown.2 with ⟨rfl, rfl⟩ | ⟨g, cap, cur, rfl, _, _, hnc, _⟩
  · simp [Builtin.append_, run_underlying ht, sizeOf, typeInfo, hi, Builtin.lenOf, Builtin.firstCells]
  · simp [Builtin.append_, run_underlying ht, sizeOf, typeInfo, hi, Builtin.lenOf, Builtin.firstCells, hnc, storeCells]

/-- 'append(out, src...)' onto a row of the call's own; the source may be nil, empty or not -/
theorem wpList_appN {ops : Array Oper} {rest : List Oper} {o : Oper} {a : Act} {Q : Exit → Act → World → Prop} {W : World} (y : Later W) (t e : TypeId) (z : Value) (sz bytes : Nat) (hinfo : (Try.prog.info? e).map (fun i => (i.zero, i.size, i.bytes)) = some (some z, sz, bytes))
    (hz : z.cells.size = sz) (hsz : 0 < sz) (ht : Try.prog.underlying t = some (.slice e)) (hgd : o.guard = none) (s x : Operand) (ho : o.op = .call { callee := .builtin .append, args := #[s, x], argTypes := #[t, t] })
    (v : Value) (n : Nat) (xs : List Value) (hs : a.eval s = v) (hown : y.w.ownsRow W.heap.size e sz v n xs) (A : Option Addr) (m c : Nat) (news : List Value) (hx : a.eval x = .slice A m c) (hl : news.length = m * sz)
    (hcells : ∀ j, j < m * sz → ∃ b o, A = some ⟨b, o, none⟩ ∧ y.w.cell? ⟨b, o + j, none⟩ = news[j]?) (h1 : ∀ u ∈ news, u.oneCell' = true) (hn : (n + m) * bytes ≤ 140737488355328) (hn' : n + m ≤ 140737488355328)
    (h : ∀ v' (z : Later W), z.w.ownsRow W.heap.size e sz v' (n + m) (xs ++ news) → y.w.grownBy z.w v.ownBlock → wpList Try.prog ops Q rest (a.put o.dst v') z.w) :
    wpList Try.prog ops Q (o :: rest) a y.w := by
  obtain ⟨i0, hi, hz0, hz1, hz2⟩ := info_parts hinfo
  have hb := y.h.size
  have key : ∃ v' w', (Builtin.append_ #[t, t] o.type #[v, .slice A m c]).run Try.prog y.w = .ok v' w' ∧ w'.ownsRow W.heap.size e sz v' (n + m) (xs ++ news) ∧ y.w.grownBy w' v.ownBlock := by
    rcases A with _ | ad
    · have hm : m = 0 := by
        rcases Nat.eq_zero_or_pos m with h0 | h0
        · exact h0
        · obtain ⟨b, o, h, _⟩ := hcells 0 (Nat.mul_pos h0 hsz); cases h
      subst hm
      obtain rfl : news = [] := List.eq_nil_of_length_eq_zero (by simpa using hl)
      exact ⟨v, y.w, run_app_nil y.w W.heap.size t o.type e i0 sz ht hi v n xs hown c, by simpa using hown, World.grownBy.refl y.w _⟩
    · have hc : ∀ j u, news[j]? = some u → y.w.cell? (ad.add j) = some u := by
        intro j u hu
        have hj : j < m * sz := by rw [← hl]; exact (List.getElem?_eq_some_iff.1 hu).1
        obtain ⟨b, o, e1, e2⟩ := hcells j hj
        cases e1
        rw [hu] at e2
        have hadd : (⟨b, o, none⟩ : Addr).add j = ⟨b, o + j, none⟩ := by unfold Addr.add; split <;> simp_all
        rw [hadd]; exact e2
      obtain ⟨v', w', hrun, h2, h3, _⟩ := run_append_own_at (P := Try.prog) y.w W.heap.size t o.type e i0 z sz bytes ht hi hz0 hz1 hz2 hz hsz v n xs hown ad m c news hl hc h1 (by unfold maxLen; omega) hn (by omega)
      exact ⟨v', w', hrun, h2, h3⟩
  obtain ⟨v', w', hrun, h2, h3⟩ := key
  obtain ⟨z, rfl⟩ := y.grown h3 (fun k hk => (hown.lt k hk).1)
  refine wpList_plain hgd fun K hK => ?_
  unfold Oper.wp execOp
  simp only [ho, resolve, invoke, builtin, Sem.run_bind, Sem.run_pure, Result.andThen_ok, List.map_toArray, List.map_cons, List.map_nil, hs, hx, hrun]
  exact hK _ _ (h v' z h2 h3)

theorem ints_cells {W : World} {A : Option Addr} {l : List Int} (h : ∀ i, i < l.length → ∃ b o, A = some ⟨b, o, none⟩ ∧ (∀ x : Later W, b < x.w.heap.size) ∧ ∀ x : Later W, x.w.cell? ⟨b, o + i, none⟩ = some (.int .i64 (nth l i))) (z : Later W) :
    ∀ j, j < l.length * 1 → ∃ b o, A = some ⟨b, o, none⟩ ∧ z.w.cell? ⟨b, o + j, none⟩ = (l.map (Value.int .i64))[j]? := fun j hj => by
  obtain ⟨b, o, ha, _, hc⟩ := h j (by omega)
  refine ⟨b, o, ha, (hc z).trans ?_⟩
  rw [nth_eq l j (by omega)]
  simp [show j < l.length by omega]
theorem bools_cells {W : World} {A : Option Addr} {l : List Bool} (h : ∀ i, i < l.length → ∃ b o, A = some ⟨b, o, none⟩ ∧ (∀ x : Later W, b < x.w.heap.size) ∧ ∀ x : Later W, x.w.cell? ⟨b, o + i, none⟩ = some (.bool (nth l i))) (z : Later W) :
    ∀ j, j < l.length * 1 → ∃ b o, A = some ⟨b, o, none⟩ ∧ z.w.cell? ⟨b, o + j, none⟩ = (l.map Value.bool)[j]? := fun j hj => by
  obtain ⟨b, o, ha, _, hc⟩ := h j (by omega)
  refine ⟨b, o, ha, (hc z).trans ?_⟩
  rw [nth_eq l j (by omega)]
  simp [show j < l.length by omega]
theorem ints_one (l : List Int) : ∀ u ∈ l.map (Value.int .i64), u.oneCell' = true := by simp [Value.oneCell']
theorem bools_one (l : List Bool) : ∀ u ∈ l.map Value.bool, u.oneCell' = true := fun u hu => by obtain ⟨b, _, rfl⟩ := List.mem_map.1 hu; rfl

/-- an empty row that is not nil -/
theorem owns_empty {W : World} (y : Later W) (e : TypeId) (sz : Nat) : ∃ z : Later W, y.w.alloc (.cells #[] e) = z.w ∧ z.w.ownsRow W.heap.size e sz (.slice (some ⟨y.w.heap.size, 0, none⟩) 0 0) 0 [] := by
  obtain ⟨z, hz⟩ := y.alloc (.cells #[] e)
  refine ⟨z, hz, ?_⟩
  rw [← hz]
  exact World.ownsRow_lit y.w #[] 0 y.h.size (by unfold maxLen; omega) (by simp)

/-- a row of the call's own, opened at place j, and written there -/
theorem owns_at {W : World} (y : Later W) {e : TypeId} {g n c : Nat} {xs : List Value} (h : y.w.ownsRow W.heap.size e 1 (.slice (some ⟨g, 0, none⟩) n c) n xs) (j : Nat) (hj : j < n) :
    y.w.cell? ⟨g, j, none⟩ = xs[j]? ∧ y.w.frozen? ⟨g, j, none⟩ = false ∧ g < y.w.heap.size ∧
    (∀ u, ∃ z : Later W, y.w.setCell ⟨g, j, none⟩ u = z.w ∧ z.w.ownsRow W.heap.size e 1 (.slice (some ⟨g, 0, none⟩) n c) n (xs.set j u) ∧ y.w.grownBy z.w (some g)) := by
  obtain ⟨a, c', hv, hl, hc⟩ := owns_cell h
  cases hv
  obtain ⟨b, hb, hle, hlt, hcell⟩ := hc j hj
  cases hb
  refine ⟨by rw [Nat.zero_add] at hcell; exact hcell, h.frozenAt j, hlt, fun u => ?_⟩
  obtain ⟨h1, h2⟩ := h.stored j u
  obtain ⟨z, hz⟩ := y.grown h2 (fun k hk => by cases hk; exact hle)
  exact ⟨z, hz, hz ▸ h1, hz ▸ h2⟩
/-- a row that holds something starts at the head of a block -/
theorem owns_head {w : World} {B : Nat} {e : TypeId} {v : Value} {n : Nat} {xs : List Value} (h : w.ownsRow B e 1 v n xs) (hn : 0 < n) : ∃ g c, v = .slice (some ⟨g, 0, none⟩) n c ∧ B ≤ g ∧ g < w.heap.size := by
  rcases h.2 with ⟨_, rfl⟩ | ⟨g, cap, cur, rfl, hb, hg, _⟩
  · omega
  · exact ⟨g, cap, rfl, hb, (Array.getElem?_eq_some_iff.1 hg).1⟩
theorem owns_slice {w : World} {B : Nat} {e : TypeId} {sz : Nat} {v : Value} {n : Nat} {xs : List Value} (h : w.ownsRow B e sz v n xs) : ∃ A c, v = .slice A n c := by
  rcases h.2 with ⟨rfl, rfl⟩ | ⟨g, cap, cur, rfl, _⟩
  · exact ⟨none, 0, rfl⟩
  · exact ⟨_, cap, rfl⟩

/-- lists of lists of numbers -/
def IsIntss (w : World) (v : Value) (l : List (List Int)) : Prop :=
  ∃ a c, v = .slice a l.length c ∧ l.length ≤ 5864062014805 ∧ ∀ i, i < l.length → ∃ b o, a = some ⟨b, o, none⟩ ∧ b < w.heap.size ∧ ∃ u, w.cell? ⟨b, o + i, none⟩ = some u ∧ IsInts w u (nth l i)
theorem IsIntss.below {w w' : World} (hb : Below w.heap.size w w') {v : Value} {l : List (List Int)} (h : IsIntss w v l) : IsIntss w' v l := by
  obtain ⟨a, c, hv, hl, h⟩ := h
  refine ⟨a, c, hv, hl, fun i hi => ?_⟩
  obtain ⟨b, o, ha, hlt, u, hc, hu⟩ := h i hi
  exact ⟨b, o, ha, Nat.lt_of_lt_of_le hlt hb.size, u, (hb.cell (p := ⟨b, o + i, none⟩) hlt).trans hc, hu.below hb⟩
theorem IsIntss.opened {W : World} {v : Value} {l : List (List Int)} (h : IsIntss W v l) : ∃ a c, v = .slice a l.length c ∧ l.length ≤ 5864062014805 ∧ Hid (∀ i, i < l.length → ∃ b o, a = some ⟨b, o, none⟩ ∧ (∀ x : Later W, b < x.w.heap.size) ∧
    ∃ u, (∀ x : Later W, x.w.cell? ⟨b, o + i, none⟩ = some u) ∧ IsInts W u (nth l i)) := by
  obtain ⟨a, c, hv, hl, h⟩ := h
  refine ⟨a, c, hv, hl, fun i hi => ?_⟩
  obtain ⟨b, o, ha, hb, u, hc, hu⟩ := h i hi
  exact ⟨b, o, ha, Later.size hb, u, Later.cell hb hc, hu⟩
theorem Try.info22 : (Try.prog.info? 22).map (fun i => (i.zero, i.size, i.bytes)) = some (some (.slice none 0 0), 1, 24) := by kernel_rfl

/-- numbers whose cells lie outside block g -/
def IntsOff (w : World) (B : Nat) (g : Option Nat) (v : Value) (l : List Int) : Prop :=
  ∃ a c, v = .slice a l.length c ∧ l.length ≤ 17592186044416 ∧ ∀ i, i < l.length → ∃ b o, a = some ⟨b, o, none⟩ ∧ b < w.heap.size ∧ (B ≤ b ∧ some b ≠ g) ∧ w.cell? ⟨b, o + i, none⟩ = some (.int .i64 (nth l i))
theorem IntsOff.is {w : World} {B : Nat} {g : Option Nat} {v : Value} {l : List Int} (h : IntsOff w B g v l) : IsInts w v l := by
  obtain ⟨a, c, hv, hl, h⟩ := h
  exact ⟨a, c, hv, hl, fun i hi => let ⟨b, o, ha, hb, _, hc⟩ := h i hi; ⟨b, o, ha, hb, hc⟩⟩
theorem IntsOff.kept {w w' : World} {B : Nat} {g g' : Option Nat} {v : Value} {l : List Int} (h : IntsOff w B g v l) (hg : w.grownBy w' g) (hg' : g' = g ∨ ∃ k, g' = some k ∧ w.heap.size ≤ k) : IntsOff w' B g' v l := by
  obtain ⟨a, c, hv, hl, h⟩ := h
  refine ⟨a, c, hv, hl, fun i hi => ?_⟩
  obtain ⟨b, o, ha, hb, hn, hc⟩ := h i hi
  refine ⟨b, o, ha, Nat.lt_of_lt_of_le hb hg.size, ⟨hn.1, ?_⟩, hg.cell hc hn.2⟩
  rcases hg' with rfl | ⟨k, rfl, hk⟩
  · exact hn.2
  · intro e; cases e; omega
theorem IntsOff.later {w w' : World} {B : Nat} {g : Option Nat} {v : Value} {l : List Int} (h : IntsOff w B g v l) (hb : Below w.heap.size w w') : IntsOff w' B g v l := by
  obtain ⟨a, c, hv, hl, h⟩ := h
  refine ⟨a, c, hv, hl, fun i hi => ?_⟩
  obtain ⟨b, o, ha, hlt, hn, hc⟩ := h i hi
  exact ⟨b, o, ha, Nat.lt_of_lt_of_le hlt hb.size, hn, (hb.cell (p := ⟨b, o + i, none⟩) hlt).trans hc⟩
/-- what was there before the row's memory began lies outside it -/
theorem IntsOff.off {W w : World} {B : Nat} {g' : Option Nat} {v : Value} {l : List Int} (h : IntsOff W B g' v l) (hb : Below W.heap.size W w) {g : Option Nat} (hg : ∀ k, g = some k → W.heap.size ≤ k) : IntsOff w B g v l := by
  obtain ⟨a, c, hv, hl, h⟩ := h
  refine ⟨a, c, hv, hl, fun i hi => ?_⟩
  obtain ⟨b, o, ha, hlt, hB, hc⟩ := h i hi
  exact ⟨b, o, ha, Nat.lt_of_lt_of_le hlt hb.size, ⟨hB.1, fun e => by have := hg b e.symm; omega⟩, (hb.cell (p := ⟨b, o + i, none⟩) hlt).trans hc⟩
/-- what has just been made lies outside an elder row -/
theorem owns_off {w : World} {B B' n : Nat} {v : Value} {l : List Int} (h : w.ownsRow B 3 1 v n (l.map (Value.int .i64))) (hn : n ≤ 17592186044416) (hB : B' ≤ B) {g : Option Nat} (hg : ∀ k, g = some k → k < B) : IntsOff w B' g v l := by
  obtain ⟨a, c, hv, hl, h⟩ := owns_cell h
  simp at hl
  subst hl
  refine ⟨a, c, hv, hn, fun i hi => ?_⟩
  obtain ⟨b, ha, hle, hb, hc⟩ := h i hi
  exact ⟨b, 0, ha, hb, ⟨by omega, fun e => by have := hg b e.symm; omega⟩, by rw [hc, nth_eq l i hi]; simp [hi]⟩
theorem IntsOff.setCell {w : World} {B : Nat} {g : Option Nat} {v : Value} {l : List Int} (h : IntsOff w B g v l) {a : Addr} (ha : a.block < B) (u : Value) : IntsOff (w.setCell a u) B g v l := by
  obtain ⟨a', c, hv, hl, h⟩ := h
  refine ⟨a', c, hv, hl, fun i hi => ?_⟩
  obtain ⟨b, o, ha', hlt, hB, hc⟩ := h i hi
  exact ⟨b, o, ha', by simpa [World.setCell] using hlt, hB, (World.cell?_setCell_other w a ⟨b, o + i, none⟩ u (fun e => by subst e; have := hB.1; simp at ha; omega)).trans hc⟩
theorem owns_mono {w : World} {B B' : Nat} {e : TypeId} {sz n : Nat} {v : Value} {xs : List Value} (h : w.ownsRow B e sz v n xs) (hB : B' ≤ B) : w.ownsRow B' e sz v n xs := by
  refine ⟨h.1, ?_⟩
  rcases h.2 with h | ⟨g, cap, cur, h1, h2, h3⟩
  · exact .inl h
  · exact .inr ⟨g, cap, cur, h1, by omega, h3⟩

theorem owns_len {w : World} {B : Nat} {e : TypeId} {n : Nat} {v : Value} {α : Type} {f : α → Value} {l : List α} (h : w.ownsRow B e 1 v n (l.map f)) : w.ownsRow B e 1 v l.length (l.map f) := by
  have := h.1; simp at this; rw [this]; exact h

/-- a row of the call's own of lists of numbers: each of its lists reads as it should, lies outside the row, and from block B on -/
def OwnIntss {W : World} (y : Later W) (B : Nat) (v : Value) (l : List (List Int)) : Prop :=
  ∃ vs : List Value, y.w.ownsRow W.heap.size 22 1 v l.length vs ∧ vs.length = l.length ∧ ∀ i, i < l.length → ∃ u, vs[i]? = some u ∧ IntsOff y.w B v.ownBlock u (nth l i)
theorem OwnIntss.nil {W : World} (y : Later W) (B : Nat) : OwnIntss y B (.slice none 0 0) [] := ⟨[], World.ownsRow_nil _ _ _ _, rfl, fun _ hi => absurd hi (Nat.not_lt_zero _)⟩
/-- lists of lists of numbers, from block B on -/
def IsIntssF (B : Nat) (w : World) (v : Value) (l : List (List Int)) : Prop :=
  ∃ a c, v = .slice a l.length c ∧ l.length ≤ 5864062014805 ∧ ∀ i, i < l.length → ∃ b o, a = some ⟨b, o, none⟩ ∧ b < w.heap.size ∧ B ≤ b ∧ ∃ u, w.cell? ⟨b, o + i, none⟩ = some u ∧ IntsOff w B none u (nth l i)
theorem IntsOff.none {w : World} {B : Nat} {g : Option Nat} {v : Value} {l : List Int} (h : IntsOff w B g v l) : IntsOff w B Option.none v l := by
  obtain ⟨a, c, hv, hl, h⟩ := h
  exact ⟨a, c, hv, hl, fun i hi => let ⟨b, o, ha, hb, hn, hc⟩ := h i hi; ⟨b, o, ha, hb, ⟨hn.1, by simp⟩, hc⟩⟩
theorem IntsOff.mono {w : World} {B B' : Nat} {g : Option Nat} {v : Value} {l : List Int} (h : IntsOff w B g v l) (hB : B' ≤ B) : IntsOff w B' g v l := by
  obtain ⟨a, c, hv, hl, h⟩ := h
  exact ⟨a, c, hv, hl, fun i hi => let ⟨b, o, ha, hb, hn, hc⟩ := h i hi; ⟨b, o, ha, hb, ⟨by omega, hn.2⟩, hc⟩⟩
theorem IsIntssF.is {B : Nat} {w : World} {v : Value} {l : List (List Int)} (h : IsIntssF B w v l) : IsIntss w v l := by
  obtain ⟨a, c, hv, hl, h⟩ := h
  exact ⟨a, c, hv, hl, fun i hi => let ⟨b, o, ha, hb, _, u, hc, hu⟩ := h i hi; ⟨b, o, ha, hb, u, hc, hu.is⟩⟩
theorem IsIntssF.mono {B B' : Nat} {w : World} {v : Value} {l : List (List Int)} (h : IsIntssF B w v l) (hB : B' ≤ B) : IsIntssF B' w v l := by
  obtain ⟨a, c, hv, hl, h⟩ := h
  exact ⟨a, c, hv, hl, fun i hi => let ⟨b, o, ha, hb, hn, u, hc, hu⟩ := h i hi; ⟨b, o, ha, hb, by omega, u, hc, hu.mono hB⟩⟩
theorem IsIntssF.later {B : Nat} {w w' : World} {v : Value} {l : List (List Int)} (h : IsIntssF B w v l) (hb : Below w.heap.size w w') : IsIntssF B w' v l := by
  obtain ⟨a, c, hv, hl, h⟩ := h
  refine ⟨a, c, hv, hl, fun i hi => ?_⟩
  obtain ⟨b, o, ha, hlt, hn, u, hc, hu⟩ := h i hi
  exact ⟨b, o, ha, Nat.lt_of_lt_of_le hlt hb.size, hn, u, (hb.cell (p := ⟨b, o + i, Option.none⟩) hlt).trans hc, hu.later hb⟩
theorem IsIntssF.setCell {B : Nat} {w : World} {v : Value} {l : List (List Int)} (h : IsIntssF B w v l) {a : Addr} (ha : a.block < B) (u : Value) : IsIntssF B (w.setCell a u) v l := by
  obtain ⟨a', c, hv, hl, h⟩ := h
  refine ⟨a', c, hv, hl, fun i hi => ?_⟩
  obtain ⟨b, o, ha', hlt, hn, q, hc, hq⟩ := h i hi
  exact ⟨b, o, ha', by simpa [World.setCell] using hlt, hn, q, (World.cell?_setCell_other w a ⟨b, o + i, Option.none⟩ u (fun e => by subst e; simp at ha; omega)).trans hc, hq.setCell ha u⟩
theorem OwnIntss.is {W : World} {y : Later W} {B : Nat} {v : Value} {l : List (List Int)} (h : OwnIntss y B v l) (hn : l.length ≤ 5864062014805) (hB : B ≤ W.heap.size) : IsIntssF B y.w v l := by
  obtain ⟨vs, hown, _, hvs⟩ := h
  obtain ⟨a, c, hv, _, hc⟩ := owns_cell hown
  refine ⟨a, c, hv, hn, fun i hi => ?_⟩
  obtain ⟨b, ha, hle, hb, hcell⟩ := hc i hi
  obtain ⟨u, hu, hI⟩ := hvs i hi
  exact ⟨b, 0, ha, hb, by omega, u, hcell.trans hu, hI.none⟩
theorem OwnIntss.later {W : World} {y z : Later W} {B : Nat} {v : Value} {l : List (List Int)} (h : OwnIntss y B v l) (hb : Below y.w.heap.size y.w z.w) : OwnIntss z B v l := by
  obtain ⟨vs, hown, hl, hvs⟩ := h
  exact ⟨vs, owns_later hown hb, hl, fun i hi => let ⟨u, hu, hI⟩ := hvs i hi; ⟨u, hu, hI.later hb⟩⟩
theorem OwnIntss.block {W : World} {y : Later W} {B : Nat} {v : Value} {l : List (List Int)} (h : OwnIntss y B v l) : ∀ k, v.ownBlock = some k → W.heap.size ≤ k ∧ k < y.w.heap.size := by
  obtain ⟨vs, hown, _⟩ := h; exact hown.lt
/-- '[][]int{u}' -/
theorem OwnIntss.one {W : World} (y : Later W) {B : Nat} (u : Value) (l : List Int) (h : IntsOff y.w B none u l) : ∃ z : Later W, y.w.alloc (.cells #[u] 22) = z.w ∧ OwnIntss z B (.slice (some ⟨y.w.heap.size, 0, none⟩) 1 1) [l] ∧ Below y.w.heap.size y.w z.w := by
  obtain ⟨z, hz⟩ := y.alloc (.cells #[u] 22)
  have hb : Below y.w.heap.size y.w z.w := hz ▸ below_alloc1 _ _
  refine ⟨z, hz, ⟨[u], ?_, rfl, fun i hi => ?_⟩, hb⟩
  · rw [← hz]; exact World.ownsRow_lit y.w #[u] 1 y.h.size (by unfold maxLen; omega) (by simp)
  · obtain rfl : i = 0 := by simpa using hi
    exact ⟨u, rfl, h.off hb (fun k hk => by simp only [Value.ownBlock, Option.some.injEq] at hk; omega)⟩
/-- 'out = append(out, u)' onto a row of lists -/
theorem wpList_appL {ops : Array Oper} {rest : List Oper} {o : Oper} {a : Act} {Q : Exit → Act → World → Prop} {W : World} (y : Later W) (hgd : o.guard = none) (s x : Operand) (ho : o.op = .call { callee := .builtin .append, args := #[s, x], argTypes := #[79, 79] })
    (v : Value) (l : List (List Int)) (hs : a.eval s = v) {B : Nat} (hown : OwnIntss y B v l) (u : Value) (g : List Int) (hu : IntsOff y.w B v.ownBlock u g) (hx : a.eval x = .slice (some ⟨y.w.heap.size, 0, none⟩) 1 1) (hn : l.length ≤ 65536)
    (h : ∀ v' (z : Later W), OwnIntss z B v' (l ++ [g]) → IsInts z.w u g → wpList Try.prog ops Q rest (a.put o.dst v') z.w) :
    wpList Try.prog ops Q (o :: rest) a (y.w.alloc (.cells #[u] 22)) := by
  obtain ⟨vs, how, hl, hvs⟩ := hown
  have hu1 : u.oneCell' = true := by obtain ⟨a, c, rfl, _⟩ := hu; rfl
  obtain ⟨i0, hi, hz0, hz1, hz2⟩ := info_parts Try.info22
  have hb := y.h.size
  have hb1 : Below y.w.heap.size y.w (y.w.alloc (.cells #[u] 22)) := below_alloc1 _ _
  obtain ⟨v', w', hrun, h2, h3, _, h5⟩ := run_append_own_at (P := Try.prog) (y.w.alloc (.cells #[u] 22)) W.heap.size 79 o.type 22 i0 _ 1 24 Try.underlying79 hi hz0 hz1 hz2 rfl (by decide) v l.length vs (how.alloc _) ⟨y.w.heap.size, 0, none⟩ 1 1 [u] rfl (cell_one_new _ _ _) (by simpa using hu1) (by unfold maxLen; omega) (by omega) (by simp; omega)
  obtain ⟨z, rfl⟩ := y.grown_own _ how h3
  refine wpList_plain hgd fun K hK => ?_
  unfold Oper.wp execOp
  simp only [ho, resolve, invoke, builtin, Sem.run_bind, Sem.run_pure, Result.andThen_ok, List.map_toArray, List.map_cons, List.map_nil, hs, hx, hrun]
  have hg' : v'.ownBlock = v.ownBlock ∨ ∃ k, v'.ownBlock = some k ∧ (y.w.alloc (.cells #[u] 22)).heap.size ≤ k := by
    rcases h5 with h5 | h5
    · exact .inl h5
    · exact .inr ⟨_, h5, Nat.le_refl _⟩
  have keep : ∀ q ql, IntsOff y.w B v.ownBlock q ql → IntsOff z.w B v'.ownBlock q ql := fun q ql hq => (hq.later hb1).kept h3 hg'
  refine hK _ _ (h v' z ⟨vs ++ [u], by rw [List.length_append]; exact h2, by simp [hl], fun i hi => ?_⟩ (keep u g hu).is)
  rcases Nat.lt_or_ge i l.length with h1 | h1
  · obtain ⟨q, hq, hI⟩ := hvs i h1
    exact ⟨q, by rw [List.getElem?_append_left (by omega)]; exact hq, by rw [nth_append_left h1]; exact keep _ _ hI⟩
  · obtain rfl : i = l.length := by simp at hi; omega
    exact ⟨u, by rw [List.getElem?_append_right (by omega)]; simp [hl], by rw [nth_snoc]; exact keep _ _ hu⟩

end Go.Proofs.Ytmpkbolabdmkkaa
