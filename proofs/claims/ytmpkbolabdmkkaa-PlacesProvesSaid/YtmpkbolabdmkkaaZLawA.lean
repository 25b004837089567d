/- CONTRACT of the laws' example. -/
import Derived.Test.YtmpkbolabdmkkaaZPlU
namespace Go.Proofs.Ytmpkbolabdmkkaa
open Go.RowKit

/-- the example of the document -/
def exOpts : List Opt := [⟨5, 0, false, 1⟩, ⟨6, 0, false, 2⟩, ⟨0, 0, false, 1⟩]
def exLost : List Bool := [false, false, true]
def exOK : List (List Bool) := [[true, true, true], [false, true, true], [true, true, true]]
def exP : Prob := ⟨[1, 2], [exOpts, exOpts], [⟨3, 1, [0, 1], [exLost, exLost], 0, 0, []⟩, ⟨4, 2, [0, 1], [], 0, 0, exOK⟩]⟩

set_option maxRecDepth 100000 in
theorem ex_reason : reasonE exP 0 1 = 0 ∧ reasonL exP 0 1 = [3, 4] := by decide
theorem ex_clash : clashE exP = 3 := by decide
theorem ex_count : countV exP = 1 ∧ largeE exP = 0 := by decide
theorem ex_first : firstE exP = 0 ∧ firstL exP = [0, 1] := by decide

theorem foldl_heap (l : List Obj) : ∀ w : World, (l.foldl World.alloc w).heap.size = w.heap.size + l.length ∧ Below w.heap.size w (l.foldl World.alloc w) ∧ ∀ j, j < l.length → (l.foldl World.alloc w).heap[w.heap.size + j]? = l[j]? := by
  induction l with
  | nil => exact fun w => ⟨rfl, Below.refl _ _, fun j h => absurd h (Nat.not_lt_zero _)⟩
  | cons o l ih =>
    intro w
    obtain ⟨h1, h2, h3⟩ := ih (w.alloc o)
    have hs : (w.alloc o).heap.size = w.heap.size + 1 := by simp
    refine ⟨by rw [List.foldl_cons, h1, hs, List.length_cons]; omega, (below_alloc1 w o).trans (h2.mono (by omega)), fun j hj => ?_⟩
    cases j with
    | zero =>
      rw [List.foldl_cons, Nat.add_zero, h2.block _ (by omega)]
      exact World.alloc_heap_new w o
    | succ j =>
      have := h3 j (by simpa using hj)
      rw [hs] at this
      rw [List.foldl_cons, show w.heap.size + (j + 1) = w.heap.size + 1 + j by omega, this]; rfl
theorem cell_blk {w : World} {b i : Nat} {c : Array Value} {t : TypeId} (h : w.heap[b]? = some (.cells c t)) : w.cell? ⟨b, i, none⟩ = c[i]? := by simp [World.cell?, h]
theorem lt_blk {w : World} {b : Nat} {o : Obj} (h : w.heap[b]? = some o) : b < w.heap.size := (Array.getElem?_eq_some_iff.1 h).1
theorem ints_lit {w : World} {b n c : Nat} {t : TypeId} (l : List Int) (h : w.heap[b]? = some (.cells (l.map (Value.int .i64)).toArray t)) (hn : n = l.length) (hl : l.length ≤ 100) : IsInts w (.slice (some ⟨b, 0, none⟩) n c) l := by
  subst hn
  refine ⟨_, _, rfl, by omega, fun i hi => ⟨b, 0, rfl, lt_blk h, ?_⟩⟩
  rw [Nat.zero_add, cell_blk h, nth_eq l i hi]; simp [hi]
theorem bools_lit {w : World} {b n c : Nat} {t : TypeId} (l : List Bool) (h : w.heap[b]? = some (.cells (l.map Value.bool).toArray t)) (hn : n = l.length) (hl : l.length ≤ 100) : IsBools w (.slice (some ⟨b, 0, none⟩) n c) l := by
  subst hn
  refine ⟨_, _, rfl, by omega, fun i hi => ⟨b, 0, rfl, lt_blk h, ?_⟩⟩
  rw [Nat.zero_add, cell_blk h, nth_eq l i hi]; simp [hi]
theorem opts_lit {w : World} {b : Nat} {t : TypeId} (h : w.heap[b]? = some (.cells #[.int .i64 5, .int .i64 0, .bool false, .int .i64 1, .int .i64 6, .int .i64 0, .bool false, .int .i64 2, .int .i64 0, .int .i64 0, .bool false, .int .i64 1] t)) : IsOpts w (.slice (some ⟨b, 0, none⟩) 3 3) exOpts := by
  refine ⟨_, _, rfl, by decide, fun i hi => ⟨b, 0, rfl, lt_blk h, ?_⟩⟩
  match i, hi with
  | 0, _ => exact ⟨cell_blk h, cell_blk h, cell_blk h, cell_blk h⟩
  | 1, _ => exact ⟨cell_blk h, cell_blk h, cell_blk h, cell_blk h⟩
  | 2, _ => exact ⟨cell_blk h, cell_blk h, cell_blk h, cell_blk h⟩

set_option maxRecDepth 100000 in
set_option maxHeartbeats 1000000 in
theorem lexample {W : World} (x : Later W) : Calls Try.prog 64 #[] x.w (fun e w' => ∃ v0 v1 v2, e = .returned (.agg #[v0, v1, v2]) ∧ ∃ y : Later W, w' = y.w ∧ IsProb y.w v0 v1 v2 exP) := by
  go_enter Try.func64, Try.ntmps64
  go_wp2
  obtain ⟨B, hB⟩ : ∃ B, B = x.w.heap.size := ⟨_, rfl⟩
  obtain ⟨os, hos⟩ : ∃ os : List Obj, os = [
    .cells #[.slice (some ⟨B + 7, 0, none⟩) 2 2, .slice (some ⟨B + 8, 0, none⟩) 2 2, .slice (some ⟨B + 12, 0, none⟩) 2 2] 26,
    .cells #[.int .i64 5, .int .i64 0, .bool false, .int .i64 1, .int .i64 6, .int .i64 0, .bool false, .int .i64 2, .int .i64 0, .int .i64 0, .bool false, .int .i64 1] 57,
    .cells #[.bool false, .bool false, .bool true] 4, .cells #[.bool true, .bool true, .bool true] 4, .cells #[.bool false, .bool true, .bool true] 4, .cells #[.bool true, .bool true, .bool true] 4,
    .cells #[.slice (some ⟨B + 3, 0, none⟩) 3 3, .slice (some ⟨B + 4, 0, none⟩) 3 3, .slice (some ⟨B + 5, 0, none⟩) 3 3] 52,
    .cells #[.int .i64 1, .int .i64 2] 3, .cells #[.slice (some ⟨B + 1, 0, none⟩) 3 3, .slice (some ⟨B + 1, 0, none⟩) 3 3] 39, .cells #[.int .i64 0, .int .i64 1] 3,
    .cells #[.slice (some ⟨B + 2, 0, none⟩) 3 3, .slice (some ⟨B + 2, 0, none⟩) 3 3] 52, .cells #[.int .i64 0, .int .i64 1] 3,
    .cells #[.int .i64 3, .int .i64 1, .slice (some ⟨B + 9, 0, none⟩) 2 2, .slice (some ⟨B + 10, 0, none⟩) 2 2, .int .i64 0, .int .i64 0, .slice none 0 0, .int .i64 4, .int .i64 2, .slice (some ⟨B + 11, 0, none⟩) 2 2, .slice none 0 0, .int .i64 0, .int .i64 0, .slice (some ⟨B + 6, 0, none⟩) 3 3] 87] := ⟨_, rfl⟩
  obtain ⟨h1, h2, h3⟩ := foldl_heap os x.w
  have hlen : os.length = 13 := by rw [hos]; rfl
  rw [← hB] at h1 h3
  obtain ⟨y, hy⟩ := x.step h2
  have g := fun j (hj : j < 13) => h3 j (by omega)
  obtain ⟨V, hV⟩ : ∃ V, V = os.foldl World.alloc x.w := ⟨_, rfl⟩
  rw [← hV] at g hy
  have key : ∀ tmps : Array Value, tmps.getD 0 undef = .pointer (some ⟨B, 0, none⟩) → bodyPost Try.prog Try.f64 (fun e w' => ∃ v0 v1 v2, e = Ending.returned (Value.agg #[v0, v1, v2]) ∧ ∃ y : Later W, w' = y.w ∧ IsProb y.w v0 v1 v2 exP) Exit.ret { tmps := tmps, defers := [] } V := by
    intro tmps htm
    rw [hos] at g
    have g0 : V.heap[B]? = _ := g 0 (by decide)
    have g1 := g 1 (by decide)
    have g2 := g 2 (by decide)
    have g3 := g 3 (by decide)
    have g4 := g 4 (by decide)
    have g5 := g 5 (by decide)
    have g6 := g 6 (by decide)
    have g7 := g 7 (by decide)
    have g8 := g 8 (by decide)
    have g9 := g 9 (by decide)
    have g10 := g 10 (by decide)
    have g11 := g 11 (by decide)
    have g12 := g 12 (by decide)
    refine bodyPost_ret (results_cell_row rfl _ _ B 26 _ (0, 0) _ htm g0 Try.underlying26 rfl (by kernel_rfl)) rfl ?_
    refine ⟨_, _, _, rfl, y, hy, ?_⟩
    rw [← hy]
    clear hy hV hos g h1 h2 h3
    have o1 := opts_lit g1
    have l2 := bools_lit exLost (c := 3) g2 rfl (by decide)
    have l3 := bools_lit [true, true, true] (c := 3) g3 rfl (by decide)
    have l4 := bools_lit [false, true, true] (c := 3) g4 rfl (by decide)
    have l5 := bools_lit [true, true, true] (c := 3) g5 rfl (by decide)
    have i7 := ints_lit [1, 2] (c := 2) g7 rfl (by decide)
    have i9 := ints_lit [0, 1] (c := 2) g9 rfl (by decide)
    have i11 := ints_lit [0, 1] (c := 2) g11 rfl (by decide)
    have t6 : IsBoolss V (.slice (some ⟨B + 6, 0, none⟩) 3 3) exOK := by
      refine ⟨_, _, rfl, by decide, fun i hi => ⟨B + 6, 0, rfl, lt_blk g6, ?_⟩⟩
      match i, hi with
      | 0, _ => exact ⟨_, cell_blk g6, l3⟩
      | 1, _ => exact ⟨_, cell_blk g6, l4⟩
      | 2, _ => exact ⟨_, cell_blk g6, l5⟩
    have t10 : IsBoolss V (.slice (some ⟨B + 10, 0, none⟩) 2 2) [exLost, exLost] := by
      refine ⟨_, _, rfl, by decide, fun i hi => ⟨B + 10, 0, rfl, lt_blk g10, ?_⟩⟩
      match i, hi with
      | 0, _ => exact ⟨_, cell_blk g10, l2⟩
      | 1, _ => exact ⟨_, cell_blk g10, l2⟩
    have t0 : IsBoolss V (.slice none 0 0) [] := ⟨none, 0, rfl, by decide, fun _ h => absurd h (Nat.not_lt_zero _)⟩
    refine ⟨i7, ?_, ?_⟩
    · refine ⟨_, _, rfl, by decide, fun i hi => ⟨B + 8, 0, rfl, lt_blk g8, ?_⟩⟩
      match i, hi with
      | 0, _ => exact ⟨_, cell_blk g8, o1⟩
      | 1, _ => exact ⟨_, cell_blk g8, o1⟩
    · refine ⟨_, _, rfl, by decide, fun i hi => ⟨B + 12, 0, rfl, lt_blk g12, ?_⟩⟩
      match i, hi with
      | 0, _ => exact ⟨_, _, _, cell_blk g12, cell_blk g12, cell_blk g12, cell_blk g12, cell_blk g12, cell_blk g12, cell_blk g12, i9, t10, t0⟩
      | 1, _ => exact ⟨_, _, _, cell_blk g12, cell_blk g12, cell_blk g12, cell_blk g12, cell_blk g12, cell_blk g12, cell_blk g12, i11, t0, t6⟩
  have hT : ∀ (tmps : Array Value) (V' : World), V' = V → tmps.getD 0 undef = .pointer (some ⟨B, 0, none⟩) → bodyPost Try.prog Try.f64 (fun e w' => ∃ v0 v1 v2, e = Ending.returned (Value.agg #[v0, v1, v2]) ∧ ∃ y : Later W, w' = y.w ∧ IsProb y.w v0 v1 v2 exP) Exit.ret { tmps := tmps, defers := [] } V' := by rintro tmps _ rfl ht; exact key tmps ht
  refine hT _ _ ?_ (by rw [hB]; rfl)
  rw [hV, hos, hB]
  rfl
end Go.Proofs.Ytmpkbolabdmkkaa
