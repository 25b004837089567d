/- WHAT MEMORY HOLDS: the words that say that a Go value reads as plain data, and that they stay true while other memory is written. -/
import Derived.Test.YtmpkbolabdmkkaaRows
import Derived.Test.YtmpkbolabdmkkaaData
import Derived.WalkKit
import Derived.WalkSpells
import Derived.WalkLawsBesides
import Derived.Deep.QuietTactic
import Derived.BigQuiet
import Derived.Deep.LoopGhost
import Derived.Deep.DeepMust
import Derived.Lib.Hide
import Derived.Deep.Cut
import Derived.Deep.CutBlock
import Derived.Deep.DeepCutAuto
import Derived.StillTailTactics
namespace Go.Proofs.Ytmpkbolabdmkkaa
open Go.RowKit

/-- cell j of the row that begins at a -/
def IsInts (w : World) (v : Value) (l : List Int) : Prop :=
  ∃ a c, v = .slice a l.length c ∧ l.length ≤ 17592186044416 ∧ ∀ i, i < l.length → ∃ b o, a = some ⟨b, o, none⟩ ∧ b < w.heap.size ∧ w.cell? ⟨b, o + i, none⟩ = some (.int .i64 (nth l i))

def IsBools (w : World) (v : Value) (l : List Bool) : Prop :=
  ∃ a c, v = .slice a l.length c ∧ l.length ≤ 140737488355328 ∧ ∀ i, i < l.length → ∃ b o, a = some ⟨b, o, none⟩ ∧ b < w.heap.size ∧ w.cell? ⟨b, o + i, none⟩ = some (.bool (nth l i))

def OptAt (w : World) (b o : Nat) (x : Opt) : Prop :=
  w.cell? ⟨b, o, none⟩ = some (.int .i64 x.piece) ∧ w.cell? ⟨b, o + 1, none⟩ = some (.int .i64 x.shift) ∧ w.cell? ⟨b, o + 2, none⟩ = some (.bool x.back) ∧ w.cell? ⟨b, o + 3, none⟩ = some (.int .i64 x.colour)

def IsOpts (w : World) (v : Value) (l : List Opt) : Prop :=
  ∃ a c, v = .slice a l.length c ∧ l.length ≤ 4398046511104 ∧ ∀ i, i < l.length → ∃ b o, a = some ⟨b, o, none⟩ ∧ b < w.heap.size ∧ OptAt w b (o + i * 4) (nth l i)

def IsOptss (w : World) (v : Value) (l : List (List Opt)) : Prop :=
  ∃ a c, v = .slice a l.length c ∧ l.length ≤ 5864062014805 ∧ ∀ i, i < l.length → ∃ b o, a = some ⟨b, o, none⟩ ∧ b < w.heap.size ∧ ∃ u, w.cell? ⟨b, o + i, none⟩ = some u ∧ IsOpts w u (nth l i)

def IsBoolss (w : World) (v : Value) (l : List (List Bool)) : Prop :=
  ∃ a c, v = .slice a l.length c ∧ l.length ≤ 5864062014805 ∧ ∀ i, i < l.length → ∃ b o, a = some ⟨b, o, none⟩ ∧ b < w.heap.size ∧ ∃ u, w.cell? ⟨b, o + i, none⟩ = some u ∧ IsBools w u (nth l i)

/-- seven cells hold a rule -/
def RlAt (w : World) (b o : Nat) (r : Rl) : Prop :=
  ∃ u2 u3 u6, w.cell? ⟨b, o, none⟩ = some (.int .i64 r.item) ∧ w.cell? ⟨b, o + 1, none⟩ = some (.int .i64 r.kind) ∧ w.cell? ⟨b, o + 2, none⟩ = some u2 ∧ w.cell? ⟨b, o + 3, none⟩ = some u3 ∧
    w.cell? ⟨b, o + 4, none⟩ = some (.int .i64 r.lo) ∧ w.cell? ⟨b, o + 5, none⟩ = some (.int .i64 r.hi) ∧ w.cell? ⟨b, o + 6, none⟩ = some u6 ∧ IsInts w u2 r.panes ∧ IsBoolss w u3 r.hits ∧ IsBoolss w u6 r.ok

def IsRules (w : World) (v : Value) (l : List Rl) : Prop :=
  ∃ a c, v = .slice a l.length c ∧ l.length ≤ 1400000000000 ∧ ∀ i, i < l.length → ∃ b o, a = some ⟨b, o, none⟩ ∧ b < w.heap.size ∧ RlAt w b (o + i * 7) (nth l i)

/-- the three slices of a problem -/
structure IsProb (w : World) (v0 v1 v2 : Value) (p : Prob) : Prop where
  panes : IsInts w v0 p.panes
  opts : IsOptss w v1 p.opts
  rules : IsRules w v2 p.rules

/-- the three slices of a rule -/
structure IsRl (w : World) (u2 u3 u6 : Value) (r : Rl) : Prop where
  panes : IsInts w u2 r.panes
  hits : IsBoolss w u3 r.hits
  ok : IsBoolss w u6 r.ok

section below
variable {w w' : World} (hb : Below w.heap.size w w')
include hb
theorem IsInts.below {v : Value} {l : List Int} (h : IsInts w v l) : IsInts w' v l := by
  obtain ⟨a, c, hv, hl, h⟩ := h
  refine ⟨a, c, hv, hl, fun i hi => ?_⟩
  obtain ⟨b, o, ha, hlt, hc⟩ := h i hi
  exact ⟨b, o, ha, Nat.lt_of_lt_of_le hlt hb.size, (hb.cell (p := ⟨b, o + i, none⟩) hlt).trans hc⟩
theorem IsBools.below {v : Value} {l : List Bool} (h : IsBools w v l) : IsBools w' v l := by
  obtain ⟨a, c, hv, hl, h⟩ := h
  refine ⟨a, c, hv, hl, fun i hi => ?_⟩
  obtain ⟨b, o, ha, hlt, hc⟩ := h i hi
  exact ⟨b, o, ha, Nat.lt_of_lt_of_le hlt hb.size, (hb.cell (p := ⟨b, o + i, none⟩) hlt).trans hc⟩
theorem OptAt.below {b o : Nat} {x : Opt} (hlt : b < w.heap.size) (h : OptAt w b o x) : OptAt w' b o x :=
  ⟨(hb.cell (p := ⟨b, o, none⟩) hlt).trans h.1, (hb.cell (p := ⟨b, o + 1, none⟩) hlt).trans h.2.1, (hb.cell (p := ⟨b, o + 2, none⟩) hlt).trans h.2.2.1, (hb.cell (p := ⟨b, o + 3, none⟩) hlt).trans h.2.2.2⟩
theorem IsOpts.below {v : Value} {l : List Opt} (h : IsOpts w v l) : IsOpts w' v l := by
  obtain ⟨a, c, hv, hl, h⟩ := h
  refine ⟨a, c, hv, hl, fun i hi => ?_⟩
  obtain ⟨b, o, ha, hlt, hc⟩ := h i hi
  exact ⟨b, o, ha, Nat.lt_of_lt_of_le hlt hb.size, OptAt.below hb hlt hc⟩
theorem IsOptss.below {v : Value} {l : List (List Opt)} (h : IsOptss w v l) : IsOptss w' v l := by
  obtain ⟨a, c, hv, hl, h⟩ := h
  refine ⟨a, c, hv, hl, fun i hi => ?_⟩
  obtain ⟨b, o, ha, hlt, u, hc, hu⟩ := h i hi
  exact ⟨b, o, ha, Nat.lt_of_lt_of_le hlt hb.size, u, (hb.cell (p := ⟨b, o + i, none⟩) hlt).trans hc, IsOpts.below hb hu⟩
theorem IsBoolss.below {v : Value} {l : List (List Bool)} (h : IsBoolss w v l) : IsBoolss w' v l := by
  obtain ⟨a, c, hv, hl, h⟩ := h
  refine ⟨a, c, hv, hl, fun i hi => ?_⟩
  obtain ⟨b, o, ha, hlt, u, hc, hu⟩ := h i hi
  exact ⟨b, o, ha, Nat.lt_of_lt_of_le hlt hb.size, u, (hb.cell (p := ⟨b, o + i, none⟩) hlt).trans hc, IsBools.below hb hu⟩
theorem RlAt.below {b o : Nat} {x : Rl} (hlt : b < w.heap.size) (h : RlAt w b o x) : RlAt w' b o x := by
  obtain ⟨u2, u3, u6, h0, h1, h2, h3, h4, h5, h6, i2, i3, i6⟩ := h
  exact ⟨u2, u3, u6, (hb.cell (p := ⟨b, o, none⟩) hlt).trans h0, (hb.cell (p := ⟨b, o + 1, none⟩) hlt).trans h1, (hb.cell (p := ⟨b, o + 2, none⟩) hlt).trans h2, (hb.cell (p := ⟨b, o + 3, none⟩) hlt).trans h3,
    (hb.cell (p := ⟨b, o + 4, none⟩) hlt).trans h4, (hb.cell (p := ⟨b, o + 5, none⟩) hlt).trans h5, (hb.cell (p := ⟨b, o + 6, none⟩) hlt).trans h6, i2.below hb, i3.below hb, i6.below hb⟩
theorem IsRules.below {v : Value} {l : List Rl} (h : IsRules w v l) : IsRules w' v l := by
  obtain ⟨a, c, hv, hl, h⟩ := h
  refine ⟨a, c, hv, hl, fun i hi => ?_⟩
  obtain ⟨b, o, ha, hlt, hc⟩ := h i hi
  exact ⟨b, o, ha, Nat.lt_of_lt_of_le hlt hb.size, RlAt.below hb hlt hc⟩
theorem IsProb.below {v0 v1 v2 : Value} {p : Prob} (h : IsProb w v0 v1 v2 p) : IsProb w' v0 v1 v2 p := ⟨h.panes.below hb, h.opts.below hb, h.rules.below hb⟩
theorem IsRl.below {v0 v1 v2 : Value} {p : Rl} (h : IsRl w v0 v1 v2 p) : IsRl w' v0 v1 v2 p := ⟨h.panes.below hb, h.hits.below hb, h.ok.below hb⟩
end below

theorem below_drewN {B : Nat} {a w : World} (h : Below B a w) (n : Nat) : Below B a (w.drewN n) := ⟨h.os, h.tape, h.output, h.size, h.block⟩
theorem below_alloc1 (w : World) (o : Obj) : Below w.heap.size w (w.alloc o) := (Below.refl _ _).alloc (Nat.le_refl _) _

theorem bcell {W w1 : World} (hb : Below W.heap.size W w1) : (∀ b o, b < W.heap.size → w1.cell? ⟨b, o, none⟩ = W.cell? ⟨b, o, none⟩) ∧ (∀ b o, b < W.heap.size → w1.frozen? ⟨b, o, none⟩ = W.frozen? ⟨b, o, none⟩) :=
  ⟨fun b o h => hb.cell (p := ⟨b, o, none⟩) h, fun b o h => hb.frozen (p := ⟨b, o, none⟩) h⟩

/-- A world in which whatever lay in W lies as it lay. -/
structure Later (W : World) where
  w : World
  h : Below W.heap.size W w

instance {W : World} : Nonempty (Later W) := ⟨⟨W, Below.refl _ _⟩⟩

/-- the world itself -/
def Later.now (W : World) : Later W := ⟨W, Below.refl _ _⟩
theorem Later.cell {W : World} {b o : Nat} {v : Value} (hb : b < W.heap.size) (hc : W.cell? ⟨b, o, none⟩ = some v) : ∀ x : Later W, x.w.cell? ⟨b, o, none⟩ = some v :=
  fun x => (x.h.cell (p := ⟨b, o, none⟩) hb).trans hc
theorem Later.frozen {W : World} {b o : Nat} {v : Bool} (hb : b < W.heap.size) (hc : W.frozen? ⟨b, o, none⟩ = v) : ∀ x : Later W, x.w.frozen? ⟨b, o, none⟩ = v :=
  fun x => (x.h.frozen (p := ⟨b, o, none⟩) hb).trans hc
theorem Later.size {W : World} {b : Nat} (hb : b < W.heap.size) : ∀ x : Later W, b < x.w.heap.size := fun x => Nat.lt_of_lt_of_le hb x.h.size
theorem Later.step {W w' : World} (x : Later W) (hb : Below x.w.heap.size x.w w') : ∃ y : Later W, w' = y.w := ⟨⟨w', x.h.trans (hb.mono x.h.size)⟩, rfl⟩
theorem Later.drew {W : World} (x : Later W) (n : Nat) : ∃ y : Later W, x.w.drewN n = y.w := ⟨⟨_, below_drewN x.h n⟩, rfl⟩
theorem Later.down {W W1 : World} (y : Later W1) (hb : Below W.heap.size W W1) : ∃ z : Later W, y.w = z.w := ⟨⟨y.w, hb.trans (y.h.mono hb.size)⟩, rfl⟩
/-- a later world of a later world -/
def Later.up {W : World} (x : Later W) (z : Later x.w) : Later W := ⟨z.w, x.h.trans (z.h.mono x.h.size)⟩

/-- what is later than a world that is later than W -/
def Later.re {W W2 : World} (hb : Below W.heap.size W W2) (z : Later W2) : Later W := ⟨z.w, hb.trans (z.h.mono hb.size)⟩
theorem Later.cells {W W2 : World} (hb : Below W.heap.size W W2) {b o : Nat} {v : Value} (h : ∀ y : Later W, y.w.cell? ⟨b, o, none⟩ = some v) : ∀ z : Later W2, z.w.cell? ⟨b, o, none⟩ = some v := fun z => h (z.re hb)
theorem Later.sizes {W W2 : World} (hb : Below W.heap.size W W2) {b : Nat} (h : ∀ y : Later W, b < y.w.heap.size) : ∀ z : Later W2, b < z.w.heap.size := fun z => h (z.re hb)

/-- HOW A CALL ENDS that hands back v and leaves all old memory as it lay -/
def Ends (W : World) (v : Value) (e : Ending) (w' : World) : Prop := e = .returned v ∧ ∃ y : Later W, w' = y.w

/-- a region that draws its order, whose operations read old memory and whose callees make memory of their own alone -/
theorem wp_region_later {P : Program} {id : Nat} {Q : Exit → Act → World → Prop} {a : Act} {W : World} {l : List Oper} (x : Later W) (hm : P.follows .mixedOrders = true) (hB : Region.lexB .any l.toArray = true)
    (h : wpQuiet P l.toArray (fun w' => ∃ y : Later W, w' = y.w) (fun a' => ∀ w', (∃ y : Later W, w' = y.w) → Q .normal a' w') l a) : (Code.region id l.toArray true).wp P Q a x.w :=
  wp_region_quiet (C := fun w' => ∃ y : Later W, w' = y.w) hm hB (x.drew 1) (by simpa using h)

/-- a callee that leaves the world alone, met inside such a region -/
theorem calls_same {P : Program} {f : FuncId} {args : Array Value} {W : World} {x : Later W} {v : Value}
    (h : Calls P f args x.w fun e w' => e = .returned v ∧ x.w = w') : Calls P f args x.w fun e w' => e = .returned v ∧ ∃ y : Later W, w' = y.w :=
  h.mono fun _ _ ⟨he, hb⟩ => ⟨he, x, hb.symm⟩
theorem calls_ends {P : Program} {f : FuncId} {args : Array Value} {W : World} {x : Later W} {v : Value}
    (h : Calls P f args x.w (Ends W v)) : Calls P f args x.w fun e w' => e = .returned v ∧ ∃ y : Later W, w' = y.w := h

/-- parameters laid in memory of their own: three, four, seven cells -/
theorem enter3 {W : World} (x : Later W) (v0 v1 v2 : Value) (T : TypeId) : ∃ (W1 : World) (x1 : Later W1), x.w.alloc (.cells #[v0, v1, v2] T) = x1.w ∧ Below W.heap.size W W1 ∧ (∀ y : Later W1, x.w.heap.size < y.w.heap.size) ∧
    (∀ y : Later W1, y.w.cell? ⟨x.w.heap.size, 0, none⟩ = some v0) ∧ (∀ y : Later W1, y.w.cell? ⟨x.w.heap.size, 1, none⟩ = some v1) ∧ (∀ y : Later W1, y.w.cell? ⟨x.w.heap.size, 2, none⟩ = some v2) := by
  have hs : x.w.heap.size < (x.w.alloc (.cells #[v0, v1, v2] T)).heap.size := by simp
  refine ⟨_, Later.now _, rfl, x.h.alloc x.h.size _, Later.size hs, Later.cell hs ?_, Later.cell hs ?_, Later.cell hs ?_⟩ <;> simp
theorem enter4 {W : World} (x : Later W) (v0 v1 v2 v3 : Value) (T : TypeId) : ∃ (W1 : World) (x1 : Later W1), x.w.alloc (.cells #[v0, v1, v2, v3] T) = x1.w ∧ Below W.heap.size W W1 ∧ (∀ y : Later W1, x.w.heap.size < y.w.heap.size) ∧
    (∀ y : Later W1, y.w.cell? ⟨x.w.heap.size, 0, none⟩ = some v0) ∧ (∀ y : Later W1, y.w.cell? ⟨x.w.heap.size, 1, none⟩ = some v1) ∧ (∀ y : Later W1, y.w.cell? ⟨x.w.heap.size, 2, none⟩ = some v2) ∧ (∀ y : Later W1, y.w.cell? ⟨x.w.heap.size, 3, none⟩ = some v3) := by
  have hs : x.w.heap.size < (x.w.alloc (.cells #[v0, v1, v2, v3] T)).heap.size := by simp
  refine ⟨_, Later.now _, rfl, x.h.alloc x.h.size _, Later.size hs, Later.cell hs ?_, Later.cell hs ?_, Later.cell hs ?_, Later.cell hs ?_⟩ <;> simp
theorem enter7 {W : World} (x : Later W) (v0 v1 v2 v3 v4 v5 v6 : Value) (T : TypeId) : ∃ (W1 : World) (x1 : Later W1), x.w.alloc (.cells #[v0, v1, v2, v3, v4, v5, v6] T) = x1.w ∧ Below W.heap.size W W1 ∧ (∀ y : Later W1, x.w.heap.size < y.w.heap.size) ∧
    (∀ y : Later W1, y.w.cell? ⟨x.w.heap.size, 0, none⟩ = some v0) ∧ (∀ y : Later W1, y.w.cell? ⟨x.w.heap.size, 1, none⟩ = some v1) ∧ (∀ y : Later W1, y.w.cell? ⟨x.w.heap.size, 2, none⟩ = some v2) ∧ (∀ y : Later W1, y.w.cell? ⟨x.w.heap.size, 3, none⟩ = some v3) ∧
    (∀ y : Later W1, y.w.cell? ⟨x.w.heap.size, 4, none⟩ = some v4) ∧ (∀ y : Later W1, y.w.cell? ⟨x.w.heap.size, 5, none⟩ = some v5) ∧ (∀ y : Later W1, y.w.cell? ⟨x.w.heap.size, 6, none⟩ = some v6) := by
  have hs : x.w.heap.size < (x.w.alloc (.cells #[v0, v1, v2, v3, v4, v5, v6] T)).heap.size := by simp
  refine ⟨_, Later.now _, rfl, x.h.alloc x.h.size _, Later.size hs, Later.cell hs ?_, Later.cell hs ?_, Later.cell hs ?_, Later.cell hs ?_, Later.cell hs ?_, Later.cell hs ?_, Later.cell hs ?_⟩ <;> simp

theorem enter37 {W : World} (x : Later W) (u0 u1 u2 v0 v1 v2 v3 v4 v5 v6 : Value) (S T : TypeId) : ∃ (W1 : World) (x1 : Later W1), (x.w.alloc (.cells #[u0, u1, u2] S)).alloc (.cells #[v0, v1, v2, v3, v4, v5, v6] T) = x1.w ∧ Below W.heap.size W W1 ∧
    ((∀ y : Later W1, x.w.heap.size < y.w.heap.size) ∧ (∀ y : Later W1, x.w.heap.size + 1 < y.w.heap.size)) ∧
    ((∀ y : Later W1, y.w.cell? ⟨x.w.heap.size, 0, none⟩ = some u0) ∧ (∀ y : Later W1, y.w.cell? ⟨x.w.heap.size, 1, none⟩ = some u1) ∧ (∀ y : Later W1, y.w.cell? ⟨x.w.heap.size, 2, none⟩ = some u2)) ∧
    (∀ y : Later W1, y.w.cell? ⟨x.w.heap.size + 1, 0, none⟩ = some v0) ∧ (∀ y : Later W1, y.w.cell? ⟨x.w.heap.size + 1, 1, none⟩ = some v1) ∧ (∀ y : Later W1, y.w.cell? ⟨x.w.heap.size + 1, 2, none⟩ = some v2) ∧ (∀ y : Later W1, y.w.cell? ⟨x.w.heap.size + 1, 3, none⟩ = some v3) ∧
    (∀ y : Later W1, y.w.cell? ⟨x.w.heap.size + 1, 4, none⟩ = some v4) ∧ (∀ y : Later W1, y.w.cell? ⟨x.w.heap.size + 1, 5, none⟩ = some v5) ∧ (∀ y : Later W1, y.w.cell? ⟨x.w.heap.size + 1, 6, none⟩ = some v6) := by
  have hs : x.w.heap.size < ((x.w.alloc (.cells #[u0, u1, u2] S)).alloc (.cells #[v0, v1, v2, v3, v4, v5, v6] T)).heap.size := by simp; omega
  have hs' : x.w.heap.size + 1 < ((x.w.alloc (.cells #[u0, u1, u2] S)).alloc (.cells #[v0, v1, v2, v3, v4, v5, v6] T)).heap.size := by simp
  have f1 : ∀ i, ((x.w.alloc (.cells #[u0, u1, u2] S)).alloc (.cells #[v0, v1, v2, v3, v4, v5, v6] T)).cell? ⟨x.w.heap.size, i, none⟩ = #[u0, u1, u2][i]? := fun i => (World.cell?_alloc_past _ _ i (by simp)).trans (World.cell?_alloc_at _ S _ i rfl)
  have f2 : ∀ i, ((x.w.alloc (.cells #[u0, u1, u2] S)).alloc (.cells #[v0, v1, v2, v3, v4, v5, v6] T)).cell? ⟨x.w.heap.size + 1, i, none⟩ = #[v0, v1, v2, v3, v4, v5, v6][i]? := fun i => World.cell?_alloc_at _ T _ i (by simp)
  exact ⟨_, Later.now _, rfl, (x.h.alloc x.h.size _).alloc (by have := x.h.size; simp; omega) _, ⟨Later.size hs, Later.size hs'⟩, ⟨Later.cell hs (f1 0), Later.cell hs (f1 1), Later.cell hs (f1 2)⟩, Later.cell hs' (f2 0), Later.cell hs' (f2 1), Later.cell hs' (f2 2), Later.cell hs' (f2 3), Later.cell hs' (f2 4), Later.cell hs' (f2 5), Later.cell hs' (f2 6)⟩

section opened
variable {W : World}
/-- opened: the slice's form, and of each element what its cells hold in every later world -/
theorem IsInts.opened {v : Value} {l : List Int} (h : IsInts W v l) : ∃ a c, v = .slice a l.length c ∧ l.length ≤ 17592186044416 ∧ Hid (∀ i, i < l.length → ∃ b o, a = some ⟨b, o, none⟩ ∧ (∀ x : Later W, b < x.w.heap.size) ∧ ∀ x : Later W, x.w.cell? ⟨b, o + i, none⟩ = some (.int .i64 (nth l i))) := by
  obtain ⟨a, c, hv, hl, h⟩ := h
  refine ⟨a, c, hv, hl, fun i hi => ?_⟩
  obtain ⟨b, o, ha, hb, hc⟩ := h i hi
  exact ⟨b, o, ha, Later.size hb, Later.cell hb hc⟩
theorem IsBools.opened {v : Value} {l : List Bool} (h : IsBools W v l) : ∃ a c, v = .slice a l.length c ∧ l.length ≤ 140737488355328 ∧ Hid (∀ i, i < l.length → ∃ b o, a = some ⟨b, o, none⟩ ∧ (∀ x : Later W, b < x.w.heap.size) ∧ ∀ x : Later W, x.w.cell? ⟨b, o + i, none⟩ = some (.bool (nth l i))) := by
  obtain ⟨a, c, hv, hl, h⟩ := h
  refine ⟨a, c, hv, hl, fun i hi => ?_⟩
  obtain ⟨b, o, ha, hb, hc⟩ := h i hi
  exact ⟨b, o, ha, Later.size hb, Later.cell hb hc⟩
theorem IsOpts.opened {v : Value} {l : List Opt} (h : IsOpts W v l) : ∃ a c, v = .slice a l.length c ∧ l.length ≤ 4398046511104 ∧ Hid (∀ i, i < l.length → ∃ b o, a = some ⟨b, o, none⟩ ∧ (∀ x : Later W, b < x.w.heap.size) ∧
    (∀ x : Later W, x.w.cell? ⟨b, o + i * 4, none⟩ = some (.int .i64 (nth l i).piece)) ∧ (∀ x : Later W, x.w.cell? ⟨b, o + i * 4 + 1, none⟩ = some (.int .i64 (nth l i).shift)) ∧
    (∀ x : Later W, x.w.cell? ⟨b, o + i * 4 + 2, none⟩ = some (.bool (nth l i).back)) ∧ (∀ x : Later W, x.w.cell? ⟨b, o + i * 4 + 3, none⟩ = some (.int .i64 (nth l i).colour))) := by
  obtain ⟨a, c, hv, hl, h⟩ := h
  refine ⟨a, c, hv, hl, fun i hi => ?_⟩
  obtain ⟨b, o, ha, hb, h0, h1, h2, h3⟩ := h i hi
  exact ⟨b, o, ha, Later.size hb, Later.cell hb h0, Later.cell hb h1, Later.cell hb h2, Later.cell hb h3⟩
theorem IsOptss.opened {v : Value} {l : List (List Opt)} (h : IsOptss W v l) : ∃ a c, v = .slice a l.length c ∧ l.length ≤ 5864062014805 ∧ Hid (∀ i, i < l.length → ∃ b o, a = some ⟨b, o, none⟩ ∧ (∀ x : Later W, b < x.w.heap.size) ∧
    ∃ u, (∀ x : Later W, x.w.cell? ⟨b, o + i, none⟩ = some u) ∧ IsOpts W u (nth l i)) := by
  obtain ⟨a, c, hv, hl, h⟩ := h
  refine ⟨a, c, hv, hl, fun i hi => ?_⟩
  obtain ⟨b, o, ha, hb, u, hc, hu⟩ := h i hi
  exact ⟨b, o, ha, Later.size hb, u, Later.cell hb hc, hu⟩
theorem IsBoolss.opened {v : Value} {l : List (List Bool)} (h : IsBoolss W v l) : ∃ a c, v = .slice a l.length c ∧ l.length ≤ 5864062014805 ∧ Hid (∀ i, i < l.length → ∃ b o, a = some ⟨b, o, none⟩ ∧ (∀ x : Later W, b < x.w.heap.size) ∧
    ∃ u, (∀ x : Later W, x.w.cell? ⟨b, o + i, none⟩ = some u) ∧ IsBools W u (nth l i)) := by
  obtain ⟨a, c, hv, hl, h⟩ := h
  refine ⟨a, c, hv, hl, fun i hi => ?_⟩
  obtain ⟨b, o, ha, hb, u, hc, hu⟩ := h i hi
  exact ⟨b, o, ha, Later.size hb, u, Later.cell hb hc, hu⟩
theorem IsRules.opened {v : Value} {l : List Rl} (h : IsRules W v l) : ∃ a c, v = .slice a l.length c ∧ l.length ≤ 1400000000000 ∧ Hid (∀ i, i < l.length → ∃ b o, a = some ⟨b, o, none⟩ ∧ (∀ x : Later W, b < x.w.heap.size) ∧ ∃ u2 u3 u6,
    (∀ x : Later W, x.w.cell? ⟨b, o + i * 7, none⟩ = some (.int .i64 (nth l i).item)) ∧ (∀ x : Later W, x.w.cell? ⟨b, o + i * 7 + 1, none⟩ = some (.int .i64 (nth l i).kind)) ∧
    (∀ x : Later W, x.w.cell? ⟨b, o + i * 7 + 2, none⟩ = some u2) ∧ (∀ x : Later W, x.w.cell? ⟨b, o + i * 7 + 3, none⟩ = some u3) ∧
    (∀ x : Later W, x.w.cell? ⟨b, o + i * 7 + 4, none⟩ = some (.int .i64 (nth l i).lo)) ∧ (∀ x : Later W, x.w.cell? ⟨b, o + i * 7 + 5, none⟩ = some (.int .i64 (nth l i).hi)) ∧
    (∀ x : Later W, x.w.cell? ⟨b, o + i * 7 + 6, none⟩ = some u6) ∧ IsRl W u2 u3 u6 (nth l i)) := by
  obtain ⟨a, c, hv, hl, h⟩ := h
  refine ⟨a, c, hv, hl, fun i hi => ?_⟩
  obtain ⟨b, o, ha, hb, u2, u3, u6, h0, h1, h2, h3, h4, h5, h6, i2, i3, i6⟩ := h i hi
  exact ⟨b, o, ha, Later.size hb, u2, u3, u6, Later.cell hb h0, Later.cell hb h1, Later.cell hb h2, Later.cell hb h3, Later.cell hb h4, Later.cell hb h5, Later.cell hb h6, i2, i3, i6⟩
end opened

/-- A later world of W, in which, besides, whatever lay in x lies as it lay. -/
structure Since {W : World} (x : Later W) where
  y : Later W
  k : Below x.w.heap.size x.w y.w
instance {W : World} {x : Later W} : Nonempty (Since x) := ⟨⟨x, Below.refl _ _⟩⟩
theorem Since.cells {W : World} {x : Later W} {b o : Nat} {v : Value} (h : ∀ z : Later x.w, z.w.cell? ⟨b, o, none⟩ = some v) : ∀ s : Since x, s.y.w.cell? ⟨b, o, none⟩ = some v := fun s => h ⟨s.y.w, s.k⟩
theorem Since.sizes {W : World} {x : Later W} {b : Nat} (h : ∀ z : Later x.w, b < z.w.heap.size) : ∀ s : Since x, b < s.y.w.heap.size := fun s => h ⟨s.y.w, s.k⟩
theorem wp_region_since {P : Program} {id : Nat} {Q : Exit → Act → World → Prop} {a : Act} {W : World} {l : List Oper} (x : Later W) (hm : P.follows .mixedOrders = true) (hB : Region.lexB .any l.toArray = true)
    (h : wpQuiet P l.toArray (fun w' => ∃ s : Since x, w' = s.y.w) (fun a' => ∀ w', (∃ s : Since x, w' = s.y.w) → Q .normal a' w') l a) : (Code.region id l.toArray true).wp P Q a x.w :=
  wp_region_quiet (C := fun w' => ∃ s : Since x, w' = s.y.w) hm hB ⟨⟨⟨_, below_drewN x.h 1⟩, below_drewN (Below.refl _ _) 1⟩, rfl⟩ (by simpa using h)
theorem calls_since {P : Program} {f : FuncId} {args : Array Value} {W : World} {x : Later W} {s : Since x} {v : Value}
    (h : ∀ z : Later x.w, Calls P f args z.w (Ends x.w v)) : Calls P f args s.y.w fun e w' => e = .returned v ∧ ∃ s' : Since x, w' = s'.y.w :=
  (h ⟨s.y.w, s.k⟩).mono fun _ _ ⟨he, z, hz⟩ => ⟨he, ⟨x.up z, z.h⟩, hz⟩
theorem calls_same_since {P : Program} {f : FuncId} {args : Array Value} {W : World} {x : Later W} {s : Since x} {v : Value}
    (h : Calls P f args s.y.w fun e w' => e = .returned v ∧ s.y.w = w') : Calls P f args s.y.w fun e w' => e = .returned v ∧ ∃ s' : Since x, w' = s'.y.w :=
  h.mono fun _ _ ⟨he, hb⟩ => ⟨he, s, hb.symm⟩
/-- a callee's contract at the world that stands: what lay in it lies -/
theorem calls_on {P : Program} {f : FuncId} {args : Array Value} {W : World} (x : Later W) {v : Value} (h : Calls P f args x.w (Ends x.w v)) :
    Calls P f args x.w fun e w' => e = .returned v ∧ ∃ y : Later W, w' = y.w ∧ Below x.w.heap.size x.w y.w :=
  h.mono fun _ _ ⟨he, z, hz⟩ => ⟨he, x.up z, hz, z.h⟩
theorem owns_later {w w' : World} {B : Nat} {e : TypeId} {sz n : Nat} {v : Value} {xs : List Value} (h : w.ownsRow B e sz v n xs) (hb : Below w.heap.size w w') : w'.ownsRow B e sz v n xs :=
  h.kept (row := none) ⟨hb.os, hb.tape, hb.output, hb.size, fun k hk _ => hb.block k hk⟩ (by cases v.ownBlock <;> simp)

/-! ### Rows that a call makes and appends to -/
theorem Later.grown {W w' : World} {row : Option Nat} (x : Later W) (hg : x.w.grownBy w' row) (hr : ∀ k, row = some k → W.heap.size ≤ k) : ∃ y : Later W, w' = y.w :=
  ⟨⟨w', x.h.grown hg x.h.size hr⟩, rfl⟩
theorem Later.grown_own {W w' : World} {e : TypeId} {sz n : Nat} {v : Value} {xs : List Value} (x : Later W) (o : Obj) (hown : x.w.ownsRow W.heap.size e sz v n xs) (hg : (x.w.alloc o).grownBy w' v.ownBlock) : ∃ y : Later W, w' = y.w := by
  obtain ⟨x', hx'⟩ := x.step (below_alloc1 x.w o)
  rw [hx'] at hg
  exact x'.grown hg fun k hk => (hown.lt k hk).1
theorem Later.alloc {W : World} (x : Later W) (o : Obj) : ∃ y : Later W, x.w.alloc o = y.w := x.step (below_alloc1 _ _)

/-- 'append(out, u)': one cell, onto a row of the call's own -/
theorem wpList_app1 {ops : Array Oper} {rest : List Oper} {o : Oper} {a : Act} {Q : Exit → Act → World → Prop} {W : World} (y : Later W) (t e : TypeId) (z : Value) (bytes : Nat) (hinfo : (Try.prog.info? e).map (fun i => (i.zero, i.size, i.bytes)) = some (some z, 1, bytes))
    (hz : z.cells.size = 1) (ht : Try.prog.underlying t = some (.slice e)) (hgd : o.guard = none) (s x : Operand) (ho : o.op = .call { callee := .builtin .append, args := #[s, x], argTypes := #[t, t] })
    (v : Value) (n : Nat) (xs : List Value) (hs : a.eval s = v) (hown : y.w.ownsRow W.heap.size e 1 v n xs) (u : Value) (hx : a.eval x = .slice (some ⟨y.w.heap.size, 0, none⟩) 1 1) (hu : u.oneCell' = true) (hn : (n + 1) * bytes ≤ 140737488355328) (hn' : n + 1 ≤ 140737488355328)
    (h : ∀ v' (z : Later W), z.w.ownsRow W.heap.size e 1 v' (n + 1) (xs ++ [u]) → (y.w.alloc (.cells #[u] e)).grownBy z.w v.ownBlock → wpList Try.prog ops Q rest (a.put o.dst v') z.w) :
    wpList Try.prog ops Q (o :: rest) a (y.w.alloc (.cells #[u] e)) := by
  obtain ⟨i0, hi, hz0, hz1, hz2⟩ := info_parts hinfo
  have hb := y.h.size
  refine wpList_append_own _ hgd s x t ho W.heap.size e i0 z 1 bytes ht hi hz0 hz1 hz2 hz (by decide) v n xs hs (hown.alloc _) ⟨y.w.heap.size, 0, none⟩ 1 1 [u] hx rfl (cell_one_new _ _ _) (by simpa using hu) (by unfold maxLen; omega) hn (by simp; omega) ?_
  intro v' w1 hown' hg _
  obtain ⟨z, rfl⟩ := y.grown_own _ hown hg
  exact h v' z hown' hg

theorem owns_step {w : World} {B : Nat} {e : TypeId} {α : Type} {f : α → Value} {v : Value} {l l' : List α} {u : α} (h : w.ownsRow B e 1 v (l.length + 1) (l.map f ++ [f u])) (he : l' = l ++ [u]) : w.ownsRow B e 1 v l'.length (l'.map f) := by
  subst he; simpa using h

theorem owns_cell {w : World} {B : Nat} {e : TypeId} {v : Value} {n : Nat} {xs : List Value} (h : w.ownsRow B e 1 v n xs) :
    ∃ a c, v = .slice a n c ∧ xs.length = n ∧ ∀ i, i < n → ∃ b, a = some ⟨b, 0, none⟩ ∧ B ≤ b ∧ b < w.heap.size ∧ w.cell? ⟨b, 0 + i, none⟩ = xs[i]? := by
  have hl : xs.length = n := by have := h.1; omega
  rcases h.2 with ⟨rfl, rfl⟩ | ⟨g, cap, cur, rfl, hb, hg, _⟩
  · exact ⟨none, 0, rfl, hl, fun i hi => absurd hi (Nat.not_lt_zero _)⟩
  · refine ⟨_, cap, rfl, hl, fun i hi => ⟨g, rfl, hb, (Array.getElem?_eq_some_iff.1 hg).1, ?_⟩⟩
    have := h.cells (g := g) rfl i xs[i] (by simp [hl, hi])
    have hadd : (⟨g, 0, none⟩ : Addr).add i = ⟨g, 0 + i, none⟩ := by unfold Addr.add; split <;> simp_all
    rw [hadd] at this
    rw [this]; simp [hl, hi]
theorem isInts_of_owns {w : World} {B : Nat} {v : Value} {n : Nat} {l : List Int} (h : w.ownsRow B 3 1 v n (l.map (Value.int .i64))) (hn : n ≤ 17592186044416) : IsInts w v l := by
  obtain ⟨a, c, hv, hl, h⟩ := owns_cell h
  simp at hl
  subst hl
  refine ⟨a, c, hv, hn, fun i hi => ?_⟩
  obtain ⟨b, ha, _, hb, hc⟩ := h i hi
  exact ⟨b, 0, ha, hb, by rw [hc, nth_eq l i hi]; simp [hi]⟩
theorem isBools_of_owns {w : World} {B : Nat} {v : Value} {n : Nat} {l : List Bool} (h : w.ownsRow B 4 1 v n (l.map Value.bool)) (hn : n ≤ 140737488355328) : IsBools w v l := by
  obtain ⟨a, c, hv, hl, h⟩ := owns_cell h
  simp at hl
  subst hl
  refine ⟨a, c, hv, hn, fun i hi => ?_⟩
  obtain ⟨b, ha, _, hb, hc⟩ := h i hi
  exact ⟨b, 0, ha, hb, by rw [hc, nth_eq l i hi]; simp [hi]⟩

theorem Try.info3 : (Try.prog.info? 3).map (fun i => (i.zero, i.size, i.bytes)) = some (some (.int .i64 0), 1, 8) := by kernel_rfl
theorem Try.info4 : (Try.prog.info? 4).map (fun i => (i.zero, i.size, i.bytes)) = some (some (.bool false), 1, 1) := by kernel_rfl

/-- HOW A CALL ENDS that hands back numbers in memory of its own -/
def EndsInts (W : World) (l : List Int) (e : Ending) (w' : World) : Prop := ∃ v, e = .returned v ∧ ∃ y : Later W, w' = y.w ∧ IsInts y.w v l
/-- .. and an error code behind them -/
def EndsIntsE (W : World) (l : List Int) (n : Int) (e : Ending) (w' : World) : Prop := ∃ v, e = .returned (.tuple #[v, .int .i64 n]) ∧ ∃ y : Later W, w' = y.w ∧ IsInts y.w v l
/-- the numbers lie in a row of the call's own -/
def EndsOwn (W : World) (l : List Int) (e : Ending) (w' : World) : Prop := ∃ v, e = .returned v ∧ ∃ y : Later W, w' = y.w ∧ y.w.ownsRow W.heap.size 3 1 v l.length (l.map (Value.int .i64))

theorem ne_bne {a b : Nat} (h : ((a : Int) != (b : Int)) = true) : a ≠ b := by have := h; simp at this; omega
theorem eq_bne {a b : Nat} (h : ((a : Int) != (b : Int)) = false) : a = b := by have := h; simp at this; omega
theorem ne_bneI {a b : Int} (h : (a != b) = true) : a ≠ b := by simpa using h
theorem eq_bneI {a b : Int} (h : (a != b) = false) : a = b := by simpa using h
theorem eq_beqI {a b : Int} (h : (a == b) = true) : a = b := by simpa using h
theorem ne_beqI {a b : Int} (h : (a == b) = false) : a ≠ b := by simpa using h
theorem eq_beq {a b : Nat} (h : ((a : Int) == (b : Int)) = true) : a = b := by have := h; simp at this; omega
theorem ne_beq {a b : Nat} (h : ((a : Int) == (b : Int)) = false) : a ≠ b := by have := h; simp at this; omega

theorem ret_bool {a b : Bool} (h : a = b) : Ending.returned (.bool a) = .returned (.bool b) := by rw [h]
theorem ret_int {k : IntKind} {a b : Int} (h : a = b) : Ending.returned (.int k a) = .returned (.int k b) := by rw [h]

end Go.Proofs.Ytmpkbolabdmkkaa
