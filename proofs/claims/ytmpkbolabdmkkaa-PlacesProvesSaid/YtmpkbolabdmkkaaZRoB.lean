/- CONTRACT of the reference's CopyRule. -/
import Derived.Test.YtmpkbolabdmkkaaZo
import Derived.Test.YtmpkbolabdmkkaaZPoC
namespace Go.Proofs.Ytmpkbolabdmkkaa
open Go.RowKit

theorem results_c1 {fn : Func} {b : Nat} {c : Tmp} {ty : TypeId} {tmps : Array Value} {w : World} {v : Value} (h : fn.results = #[.cell c ty]) (hc : tmps.getD c undef = .pointer (some ⟨b, 0, none⟩))
    (h2 : (loadVar ty ⟨b, 0, none⟩).run Try.prog w = .ok v w) : (results fn tmps).run Try.prog w = .ok v w := by
  rw [Array.getD_eq_getD_getElem?] at hc
  simp only [results, h]
  simp [hc, asAddr, h2]
theorem seven_set {w : World} {b : Nat} {v0 v1 v2 v3 v4 v5 v6 u0 u1 u2 u3 u4 u5 u6 : Value} (h0 : w.cell? ⟨b, 0, none⟩ = some v0) (h1 : w.cell? ⟨b, 1, none⟩ = some v1) (h2 : w.cell? ⟨b, 2, none⟩ = some v2) (h3 : w.cell? ⟨b, 3, none⟩ = some v3) (h4 : w.cell? ⟨b, 4, none⟩ = some v4) (h5 : w.cell? ⟨b, 5, none⟩ = some v5) (h6 : w.cell? ⟨b, 6, none⟩ = some v6) :
    (((((((w.setCell ⟨b, 0, none⟩ u0).setCell ⟨b, 1, none⟩ u1).setCell ⟨b, 2, none⟩ u2).setCell ⟨b, 3, none⟩ u3).setCell ⟨b, 4, none⟩ u4).setCell ⟨b, 5, none⟩ u5).setCell ⟨b, 6, none⟩ u6).cell? ⟨b, 0, none⟩ = some u0 ∧ (((((((w.setCell ⟨b, 0, none⟩ u0).setCell ⟨b, 1, none⟩ u1).setCell ⟨b, 2, none⟩ u2).setCell ⟨b, 3, none⟩ u3).setCell ⟨b, 4, none⟩ u4).setCell ⟨b, 5, none⟩ u5).setCell ⟨b, 6, none⟩ u6).cell? ⟨b, 1, none⟩ = some u1 ∧ (((((((w.setCell ⟨b, 0, none⟩ u0).setCell ⟨b, 1, none⟩ u1).setCell ⟨b, 2, none⟩ u2).setCell ⟨b, 3, none⟩ u3).setCell ⟨b, 4, none⟩ u4).setCell ⟨b, 5, none⟩ u5).setCell ⟨b, 6, none⟩ u6).cell? ⟨b, 2, none⟩ = some u2 ∧ (((((((w.setCell ⟨b, 0, none⟩ u0).setCell ⟨b, 1, none⟩ u1).setCell ⟨b, 2, none⟩ u2).setCell ⟨b, 3, none⟩ u3).setCell ⟨b, 4, none⟩ u4).setCell ⟨b, 5, none⟩ u5).setCell ⟨b, 6, none⟩ u6).cell? ⟨b, 3, none⟩ = some u3 ∧ (((((((w.setCell ⟨b, 0, none⟩ u0).setCell ⟨b, 1, none⟩ u1).setCell ⟨b, 2, none⟩ u2).setCell ⟨b, 3, none⟩ u3).setCell ⟨b, 4, none⟩ u4).setCell ⟨b, 5, none⟩ u5).setCell ⟨b, 6, none⟩ u6).cell? ⟨b, 4, none⟩ = some u4 ∧ (((((((w.setCell ⟨b, 0, none⟩ u0).setCell ⟨b, 1, none⟩ u1).setCell ⟨b, 2, none⟩ u2).setCell ⟨b, 3, none⟩ u3).setCell ⟨b, 4, none⟩ u4).setCell ⟨b, 5, none⟩ u5).setCell ⟨b, 6, none⟩ u6).cell? ⟨b, 5, none⟩ = some u5 ∧ (((((((w.setCell ⟨b, 0, none⟩ u0).setCell ⟨b, 1, none⟩ u1).setCell ⟨b, 2, none⟩ u2).setCell ⟨b, 3, none⟩ u3).setCell ⟨b, 4, none⟩ u4).setCell ⟨b, 5, none⟩ u5).setCell ⟨b, 6, none⟩ u6).cell? ⟨b, 6, none⟩ = some u6 := by
  refine ⟨?_, ?_, ?_, ?_, ?_, ?_, ?_⟩
  · exact ((World.cell?_setCell_other _ _ _ _ (fun e => by cases e)).trans ((World.cell?_setCell_other _ _ _ _ (fun e => by cases e)).trans ((World.cell?_setCell_other _ _ _ _ (fun e => by cases e)).trans ((World.cell?_setCell_other _ _ _ _ (fun e => by cases e)).trans ((World.cell?_setCell_other _ _ _ _ (fun e => by cases e)).trans ((World.cell?_setCell_other _ _ _ _ (fun e => by cases e)).trans (World.cell?_setCell_same _ _ _ h0)))))))
  · exact ((World.cell?_setCell_other _ _ _ _ (fun e => by cases e)).trans ((World.cell?_setCell_other _ _ _ _ (fun e => by cases e)).trans ((World.cell?_setCell_other _ _ _ _ (fun e => by cases e)).trans ((World.cell?_setCell_other _ _ _ _ (fun e => by cases e)).trans ((World.cell?_setCell_other _ _ _ _ (fun e => by cases e)).trans (World.cell?_setCell_same _ _ _ ((World.cell?_setCell_other _ _ _ _ (fun e => by cases e)).trans h1)))))))
  · exact ((World.cell?_setCell_other _ _ _ _ (fun e => by cases e)).trans ((World.cell?_setCell_other _ _ _ _ (fun e => by cases e)).trans ((World.cell?_setCell_other _ _ _ _ (fun e => by cases e)).trans ((World.cell?_setCell_other _ _ _ _ (fun e => by cases e)).trans (World.cell?_setCell_same _ _ _ ((World.cell?_setCell_other _ _ _ _ (fun e => by cases e)).trans ((World.cell?_setCell_other _ _ _ _ (fun e => by cases e)).trans h2)))))))
  · exact ((World.cell?_setCell_other _ _ _ _ (fun e => by cases e)).trans ((World.cell?_setCell_other _ _ _ _ (fun e => by cases e)).trans ((World.cell?_setCell_other _ _ _ _ (fun e => by cases e)).trans (World.cell?_setCell_same _ _ _ ((World.cell?_setCell_other _ _ _ _ (fun e => by cases e)).trans ((World.cell?_setCell_other _ _ _ _ (fun e => by cases e)).trans ((World.cell?_setCell_other _ _ _ _ (fun e => by cases e)).trans h3)))))))
  · exact ((World.cell?_setCell_other _ _ _ _ (fun e => by cases e)).trans ((World.cell?_setCell_other _ _ _ _ (fun e => by cases e)).trans (World.cell?_setCell_same _ _ _ ((World.cell?_setCell_other _ _ _ _ (fun e => by cases e)).trans ((World.cell?_setCell_other _ _ _ _ (fun e => by cases e)).trans ((World.cell?_setCell_other _ _ _ _ (fun e => by cases e)).trans ((World.cell?_setCell_other _ _ _ _ (fun e => by cases e)).trans h4)))))))
  · exact ((World.cell?_setCell_other _ _ _ _ (fun e => by cases e)).trans (World.cell?_setCell_same _ _ _ ((World.cell?_setCell_other _ _ _ _ (fun e => by cases e)).trans ((World.cell?_setCell_other _ _ _ _ (fun e => by cases e)).trans ((World.cell?_setCell_other _ _ _ _ (fun e => by cases e)).trans ((World.cell?_setCell_other _ _ _ _ (fun e => by cases e)).trans ((World.cell?_setCell_other _ _ _ _ (fun e => by cases e)).trans h5)))))))
  · exact (World.cell?_setCell_same _ _ _ ((World.cell?_setCell_other _ _ _ _ (fun e => by cases e)).trans ((World.cell?_setCell_other _ _ _ _ (fun e => by cases e)).trans ((World.cell?_setCell_other _ _ _ _ (fun e => by cases e)).trans ((World.cell?_setCell_other _ _ _ _ (fun e => by cases e)).trans ((World.cell?_setCell_other _ _ _ _ (fun e => by cases e)).trans ((World.cell?_setCell_other _ _ _ _ (fun e => by cases e)).trans h6)))))))
theorem loadVar_rule {b : Nat} {w : World} {v0 v1 v2 v3 v4 v5 v6 : Value} (h0 : w.cell? ⟨b, 0, none⟩ = some v0) (h1 : w.cell? ⟨b, 1, none⟩ = some v1) (h2 : w.cell? ⟨b, 2, none⟩ = some v2) (h3 : w.cell? ⟨b, 3, none⟩ = some v3) (h4 : w.cell? ⟨b, 4, none⟩ = some v4) (h5 : w.cell? ⟨b, 5, none⟩ = some v5) (h6 : w.cell? ⟨b, 6, none⟩ = some v6) : (loadVar 87 ⟨b, 0, none⟩).run Try.prog w = .ok (.agg #[v0, v1, v2, v3, v4, v5, v6]) w := by go_simp
/-- seven cells of a rule, that may be written -/
structure RlCells (w : World) (b : Nat) (v0 v1 v2 v3 v4 v5 v6 : Value) : Prop where
  lt : b < w.heap.size
  k0 : w.cell? ⟨b, 0, none⟩ = some v0
  k1 : w.cell? ⟨b, 1, none⟩ = some v1
  k2 : w.cell? ⟨b, 2, none⟩ = some v2
  k3 : w.cell? ⟨b, 3, none⟩ = some v3
  k4 : w.cell? ⟨b, 4, none⟩ = some v4
  k5 : w.cell? ⟨b, 5, none⟩ = some v5
  k6 : w.cell? ⟨b, 6, none⟩ = some v6
  f : ∀ o, o < 7 → w.frozen? ⟨b, o, none⟩ = false
theorem RlCells.below {A C : World} {b : Nat} {v0 v1 v2 v3 v4 v5 v6 : Value} (h : RlCells A b v0 v1 v2 v3 v4 v5 v6) (hb : Below A.heap.size A C) : RlCells C b v0 v1 v2 v3 v4 v5 v6 :=
  have hc : ∀ o, C.cell? ⟨b, o, none⟩ = A.cell? ⟨b, o, none⟩ := fun o => World.cell?_of_block (a := ⟨b, o, none⟩) (hb.block b h.lt)
  have hf : ∀ o, C.frozen? ⟨b, o, none⟩ = A.frozen? ⟨b, o, none⟩ := fun o => World.frozen?_of_block (a := ⟨b, o, none⟩) (hb.block b h.lt)
  ⟨Nat.lt_of_lt_of_le h.lt hb.size, (hc 0).trans h.k0, (hc 1).trans h.k1, (hc 2).trans h.k2, (hc 3).trans h.k3, (hc 4).trans h.k4, (hc 5).trans h.k5, (hc 6).trans h.k6, fun o ho => (hf o).trans (h.f o ho)⟩
theorem RlCells.set2 {A : World} {b : Nat} {v0 v1 v2 v3 v4 v5 v6 : Value} (h : RlCells A b v0 v1 v2 v3 v4 v5 v6) (u : Value) : RlCells (A.setCell ⟨b, 2, none⟩ u) b v0 v1 u v3 v4 v5 v6 :=
  have ho : ∀ o, o ≠ 2 → (A.setCell ⟨b, 2, none⟩ u).cell? ⟨b, o, none⟩ = A.cell? ⟨b, o, none⟩ := fun o ho => World.cell?_setCell_other _ _ _ _ (fun e => by cases e; exact ho rfl)
  ⟨by simpa [World.setCell] using h.lt, (ho 0 (by decide)).trans h.k0, (ho 1 (by decide)).trans h.k1, World.cell?_setCell_same _ _ _ h.k2, (ho 3 (by decide)).trans h.k3, (ho 4 (by decide)).trans h.k4, (ho 5 (by decide)).trans h.k5, (ho 6 (by decide)).trans h.k6, fun o hl => (frozen_set _ _ _ _).trans (h.f o hl)⟩
theorem RlCells.set3 {A : World} {b : Nat} {v0 v1 v2 v3 v4 v5 v6 : Value} (h : RlCells A b v0 v1 v2 v3 v4 v5 v6) (u : Value) : RlCells (A.setCell ⟨b, 3, none⟩ u) b v0 v1 v2 u v4 v5 v6 :=
  have ho : ∀ o, o ≠ 3 → (A.setCell ⟨b, 3, none⟩ u).cell? ⟨b, o, none⟩ = A.cell? ⟨b, o, none⟩ := fun o ho => World.cell?_setCell_other _ _ _ _ (fun e => by cases e; exact ho rfl)
  ⟨by simpa [World.setCell] using h.lt, (ho 0 (by decide)).trans h.k0, (ho 1 (by decide)).trans h.k1, (ho 2 (by decide)).trans h.k2, World.cell?_setCell_same _ _ _ h.k3, (ho 4 (by decide)).trans h.k4, (ho 5 (by decide)).trans h.k5, (ho 6 (by decide)).trans h.k6, fun o hl => (frozen_set _ _ _ _).trans (h.f o hl)⟩
theorem RlCells.set6 {A : World} {b : Nat} {v0 v1 v2 v3 v4 v5 v6 : Value} (h : RlCells A b v0 v1 v2 v3 v4 v5 v6) (u : Value) : RlCells (A.setCell ⟨b, 6, none⟩ u) b v0 v1 v2 v3 v4 v5 u :=
  have ho : ∀ o, o ≠ 6 → (A.setCell ⟨b, 6, none⟩ u).cell? ⟨b, o, none⟩ = A.cell? ⟨b, o, none⟩ := fun o ho => World.cell?_setCell_other _ _ _ _ (fun e => by cases e; exact ho rfl)
  ⟨by simpa [World.setCell] using h.lt, (ho 0 (by decide)).trans h.k0, (ho 1 (by decide)).trans h.k1, (ho 2 (by decide)).trans h.k2, (ho 3 (by decide)).trans h.k3, (ho 4 (by decide)).trans h.k4, (ho 5 (by decide)).trans h.k5, World.cell?_setCell_same _ _ _ h.k6, fun o hl => (frozen_set _ _ _ _).trans (h.f o hl)⟩
theorem RlCells.new (w : World) (v0 v1 v2 v3 v4 v5 v6 : Value) : RlCells (w.alloc (.cells #[v0, v1, v2, v3, v4, v5, v6] 87)) w.heap.size v0 v1 v2 v3 v4 v5 v6 :=
  ⟨by simp, World.cell?_alloc_at _ _ _ 0 rfl, World.cell?_alloc_at _ _ _ 1 rfl, World.cell?_alloc_at _ _ _ 2 rfl, World.cell?_alloc_at _ _ _ 3 rfl, World.cell?_alloc_at _ _ _ 4 rfl, World.cell?_alloc_at _ _ _ 5 rfl, World.cell?_alloc_at _ _ _ 6 rfl, fun o ho => World.frozen?_alloc_at _ _ _ o (by simp)⟩

/-- a rule in what the call made -/
def EndsRl (W : World) (r : Rl) (e : Ending) (w' : World) : Prop := ∃ A2 c2 A3 c3 A6 c6, e = .returned (.agg #[.int .i64 r.item, .int .i64 r.kind, .slice A2 r.panes.length c2, .slice A3 r.hits.length c3, .int .i64 r.lo, .int .i64 r.hi, .slice A6 r.ok.length c6]) ∧
  ∃ y : Later W, w' = y.w ∧ IsRl (wout (fun k => decide (k < W.heap.size)) y.w) (.slice A2 r.panes.length c2) (.slice A3 r.hits.length c3) (.slice A6 r.ok.length c6) r

set_option maxRecDepth 100000 in
set_option maxHeartbeats 4000000 in
theorem rCopyRule {W : World} (x : Later W) (u2 u3 u6 : Value) (r : Rl) (hr : IsRl W u2 u3 u6 r) (hn3 : r.hits.length ≤ 65536) (hn6 : r.ok.length ≤ 65536) :
    Calls Try.prog 78 #[.agg #[.int .i64 r.item, .int .i64 r.kind, u2, u3, .int .i64 r.lo, .int .i64 r.hi, u6]] x.w (EndsRl W r) := by
  go_enter Try.func78, Try.ntmps78
  go_upto_region 1 with (fail)
  obtain ⟨W1, x1, e1, hb1, s1, p0, p1, p2, p3, p4, p5, p6⟩ := enter7 x (.int .i64 r.item) (.int .i64 r.kind) u2 u3 (.int .i64 r.lo) (.int .i64 r.hi) u6 87
  rw [show x.w.heap.size + 1 = x1.w.heap.size by rw [← e1]; simp] at *
  rw [e1]; clear e1
  obtain ⟨aq, cq, rfl, lq, hq⟩ := (hr.panes.below hb1).opened
  obtain ⟨ah, ch, rfl, lh, _⟩ := hr.hits.opened
  obtain ⟨ak, ck, rfl, lk, _⟩ := hr.ok.opened
  have HH := Lib.hid (hr.hits.below hb1)
  have HK := Lib.hid (hr.ok.below hb1)
  clear hr
  go_upto_region 2 with (fail)
  obtain ⟨b2, hB2⟩ : ∃ b2, x1.w.heap.size = b2 := ⟨_, rfl⟩
  have hz0 := RlCells.new x1.w (.int .i64 0) (.int .i64 0) (.slice none 0 0) (.slice none 0 0) (.int .i64 0) (.int .i64 0) (.slice none 0 0)
  obtain ⟨B, hBe⟩ : ∃ B, x1.w.alloc (.cells #[.int .i64 0, .int .i64 0, .slice none 0 0, .slice none 0 0, .int .i64 0, .int .i64 0, .slice none 0 0] 87) = B := ⟨_, rfl⟩
  have hbB : Below W1.heap.size W1 B := hBe ▸ x1.h.alloc x1.h.size _
  have hBs : B.heap.size = b2 + 1 := by rw [← hBe, ← hB2]; simp
  have hW2 : W1.heap.size ≤ b2 := hB2 ▸ x1.h.size
  rw [hBe, hB2] at hz0
  rw [hBe, hB2]
  have ha0 := RlCells.new B (.int .i64 r.item) (.int .i64 r.kind) (.slice aq r.panes.length cq) (.slice ah r.hits.length ch) (.int .i64 r.lo) (.int .i64 r.hi) (.slice ak r.ok.length ck)
  have hbA0 := below_alloc1 B (.cells #[.int .i64 r.item, .int .i64 r.kind, .slice aq r.panes.length cq, .slice ah r.hits.length ch, .int .i64 r.lo, .int .i64 r.hi, .slice ak r.ok.length ck] 87)
  obtain ⟨A, hAe⟩ : ∃ A, B.alloc (.cells #[.int .i64 r.item, .int .i64 r.kind, .slice aq r.panes.length cq, .slice ah r.hits.length ch, .int .i64 r.lo, .int .i64 r.hi, .slice ak r.ok.length ck] 87) = A := ⟨_, rfl⟩
  have hAs : A.heap.size = b2 + 2 := by rw [← hAe]; simp [hBs]
  rw [hAe] at ha0 hbA0
  rw [hBs] at ha0
  rw [hAe]
  clear hAe hBe hB2 x1
  have hbA : Below W1.heap.size W1 A := hbB.trans (hbA0.mono hbB.size)
  have P2 : A.cell? ⟨x.w.heap.size, 2, none⟩ = some (.slice aq r.panes.length cq) := p2 ⟨A, hbA⟩
  have S0 : x.w.heap.size < A.heap.size := s1 ⟨A, hbA⟩
  obtain ⟨z, hz, hown⟩ := owns_empty (Later.now A) 3 1
  change A.alloc _ = z.w at hz
  rw [show (Later.now A).w.heap.size = b2 + 2 from hAs] at hown
  have ha1 := ha0.below z.h
  have P2z : z.w.cell? ⟨x.w.heap.size, 2, none⟩ = some (.slice aq r.panes.length cq) := Later.cell S0 P2 z
  have S0z : x.w.heap.size < z.w.heap.size := Later.size S0 z
  have hicells := ints_cells (fun i hi => by
    obtain ⟨b, o, h1, h2, h3⟩ := hq.out i hi
    exact ⟨b, o, h1, Later.sizes hbA h2, Later.cells hbA h3⟩) z
  have hI1 : Hid (∀ y : Later A, RlCells y.w (b2 + 1) (.int .i64 r.item) (.int .i64 r.kind) (.slice aq r.panes.length cq) (.slice ah r.hits.length ch) (.int .i64 r.lo) (.int .i64 r.hi) (.slice ak r.ok.length ck)) := Lib.hid (fun y => ha0.below y.h)
  clear ha1 ha0
  go_upto_region 3 with (at_builtin; refine wpList_appN z 22 3 _ 1 8 Try.info3 rfl (by decide) Try.underlying22 rfl _ _ rfl _ _ _ (by rfl) hown _ r.panes.length cq (r.panes.map (Value.int .i64)) (by rfl) (by simp) hicells (ints_one _) (by omega) (by omega) ?_; intro v3 y hrow hgx; clear hgx; obtain ⟨A3, c3, rfl⟩ := owns_slice hrow; simp only [Nat.zero_add, List.nil_append] at hrow; rw [Nat.zero_add]; have hrow3 := Lib.hid hrow; clear hrow; have e2 := (hI1.out y).k2; have f2 := (hI1.out y).f 2 (by decide); have n2 := (hI1.out y).lt)
  have hIr : IsInts (wout (fun k => decide (k < A.heap.size)) y.w) (.slice A3 r.panes.length c3) r.panes := isInts_of_owns (owns_fresh hrow3.out) lq
  have hc0 := (hI1.out y).set2 (.slice A3 r.panes.length c3)
  have hbC : Below B.heap.size B (y.w.setCell ⟨b2 + 1, 2, none⟩ (.slice A3 r.panes.length c3)) := (hbA0.trans (y.h.mono hbA0.size)).setCell (p := ⟨b2 + 1, 2, none⟩) (by show B.heap.size ≤ b2 + 1; omega) _
  have hP : (fun k => decide (k < A.heap.size)) (b2 + 1) = true := by simp; omega
  have hIc := hIr.cov (cov_set (o := 2) (u := .slice A3 r.panes.length c3) hP)
  obtain ⟨C, hCe⟩ : ∃ C, y.w.setCell ⟨b2 + 1, 2, none⟩ (.slice A3 r.panes.length c3) = C := ⟨_, rfl⟩
  rw [hCe] at hc0 hbC hIc ⊢
  clear hCe hIr hI1 hrow3 e2 f2 n2 y hicells P2z S0z hown hz z P2 S0
  have hbC1 : Below W1.heap.size W1 C := hbB.trans (hbC.mono hbB.size)
  have P3 : C.cell? ⟨x.w.heap.size, 3, none⟩ = some (.slice ah r.hits.length ch) := p3 ⟨C, hbC1⟩
  have S3 : x.w.heap.size < C.heap.size := s1 ⟨C, hbC1⟩
  have hq3 := Lib.hid (rcopied (Later.now C) _ _ (HH.out.below hbC1) hn3)
  replace hIc := Lib.hid hIc
  replace hc0 := Lib.hid hc0
  go_upto_region 4 with (go_at_call 127; refine hq3.out.mono ?_; rintro e w' ⟨v, rfl, y, rfl, vs, ht⟩; obtain ⟨A4, c4, rfl⟩ := ht.slice; have ht3 := Lib.hid ht; clear ht; have e3 := (hc0.out.below y.h).k3; have f3 := (hc0.out.below y.h).f 3 (by decide); have n3 := (hc0.out.below y.h).lt)
  obtain ⟨hl3, hl4⟩ := boolss_rows HH.out
  have hsz : A.heap.size ≤ C.heap.size := by have := hc0.out.lt; omega
  have hHr := (ht3.out.fresh hl3 hl4).cov (cov_fresh (P := fun k => decide (k < A.heap.size)) fun k hk => by rw [decide_eq_false_iff_not]; omega)
  have hHd := hHr.cov (cov_set (o := 3) (u := .slice A4 r.hits.length c4) hP)
  have hId := ((hIc.out.cov (cov_below y.h)).cov (cov_set (o := 3) (u := .slice A4 r.hits.length c4) hP))
  have hd0 := (hc0.out.below y.h).set3 (.slice A4 r.hits.length c4)
  have hbD : Below B.heap.size B (y.w.setCell ⟨b2 + 1, 3, none⟩ (.slice A4 r.hits.length c4)) := (hbC.trans (y.h.mono hbC.size)).setCell (p := ⟨b2 + 1, 3, none⟩) (by show B.heap.size ≤ b2 + 1; omega) _
  have hszy := y.h.size
  have hszD : A.heap.size ≤ (y.w.setCell ⟨b2 + 1, 3, none⟩ (.slice A4 r.hits.length c4)).heap.size := by simp [World.setCell]; omega
  obtain ⟨D, hDe⟩ : ∃ D, y.w.setCell ⟨b2 + 1, 3, none⟩ (.slice A4 r.hits.length c4) = D := ⟨_, rfl⟩
  rw [hDe] at hHd hId hd0 hbD hszD ⊢
  clear hDe hHr ht3 e3 f3 n3 hszy y hq3 P3 S3 hIc hc0 hsz
  have hbD1 : Below W1.heap.size W1 D := hbB.trans (hbD.mono hbB.size)
  have P6 : D.cell? ⟨x.w.heap.size, 6, none⟩ = some (.slice ak r.ok.length ck) := p6 ⟨D, hbD1⟩
  have S6 : x.w.heap.size < D.heap.size := s1 ⟨D, hbD1⟩
  have hq6 := Lib.hid (rcopied (Later.now D) _ _ (HK.out.below hbD1) hn6)
  replace hId := Lib.hid hId
  replace hHd := Lib.hid hHd
  replace hd0 := Lib.hid hd0
  go_upto_region 5 with (go_at_call 127; refine hq6.out.mono ?_; rintro e w' ⟨v, rfl, y, rfl, vs, ht⟩; obtain ⟨A5, c5, rfl⟩ := ht.slice; have ht6 := Lib.hid ht; clear ht; have e6 := (hd0.out.below y.h).k6; have f6 := (hd0.out.below y.h).f 6 (by decide); have n6 := (hd0.out.below y.h).lt)
  obtain ⟨hl5, hl6⟩ := boolss_rows HK.out
  have hKr := (ht6.out.fresh hl5 hl6).cov (cov_fresh (P := fun k => decide (k < A.heap.size)) fun k hk => by rw [decide_eq_false_iff_not]; omega)
  have hKe := hKr.cov (cov_set (o := 6) (u := .slice A5 r.ok.length c5) hP)
  have hIe := ((hId.out.cov (cov_below y.h)).cov (cov_set (o := 6) (u := .slice A5 r.ok.length c5) hP))
  have hHe := ((hHd.out.cov (cov_below y.h)).cov (cov_set (o := 6) (u := .slice A5 r.ok.length c5) hP))
  have he0 := (hd0.out.below y.h).set6 (.slice A5 r.ok.length c5)
  have hbE : Below B.heap.size B (y.w.setCell ⟨b2 + 1, 6, none⟩ (.slice A5 r.ok.length c5)) := (hbD.trans (y.h.mono hbD.size)).setCell (p := ⟨b2 + 1, 6, none⟩) (by show B.heap.size ≤ b2 + 1; omega) _
  obtain ⟨E, hEe⟩ : ∃ E, y.w.setCell ⟨b2 + 1, 6, none⟩ (.slice A5 r.ok.length c5) = E := ⟨_, rfl⟩
  rw [hEe] at hKe hIe hHe he0 hbE ⊢
  clear hEe hKr ht6 e6 f6 n6 y hq6 P6 S6 hId hHd hd0
  have hz1 := hz0.below hbE
  have hbE1 : Below W.heap.size W E := hb1.trans ((hbB.trans (hbE.mono hbB.size)).mono hb1.size)
  obtain ⟨nE, k0, k1, k2, k3, k4, k5, k6, hf3⟩ := he0
  obtain ⟨nZ, z0, z1, z2, z3, z4, z5, z6, hfz⟩ := hz1
  have g0 := hfz 0 (by decide)
  have g1 := hfz 1 (by decide)
  have g2 := hfz 2 (by decide)
  have g3 := hfz 3 (by decide)
  have g4 := hfz 4 (by decide)
  have g5 := hfz 5 (by decide)
  have g6 := hfz 6 (by decide)
  clear hf3 hfz hz0
  replace hIe := Lib.hid hIe
  replace hHe := Lib.hid hHe
  replace hKe := Lib.hid hKe
  go_wp2
  obtain ⟨t0, t1, t2, t3, t4, t5, t6⟩ := seven_set (u0 := .int .i64 r.item) (u1 := .int .i64 r.kind) (u2 := .slice A3 r.panes.length c3) (u3 := .slice A4 r.hits.length c4) (u4 := .int .i64 r.lo) (u5 := .int .i64 r.hi) (u6 := .slice A5 r.ok.length c5) z0 z1 z2 z3 z4 z5 z6
  refine bodyPost_ret (results_c1 rfl rfl (loadVar_rule t0 t1 t2 t3 t4 t5 t6)) rfl ?_
  have hle : W.heap.size ≤ b2 := Nat.le_trans hb1.size hW2
  have hP2 : (fun k => decide (k < A.heap.size)) b2 = true := by simp; omega
  obtain ⟨q0, hq0⟩ := Later.setO ⟨E, hbE1⟩ hle 0 (.int .i64 r.item)
  obtain ⟨q1, hq1⟩ := q0.setO hle 1 (.int .i64 r.kind)
  obtain ⟨q2, hq2⟩ := q1.setO hle 2 (.slice A3 r.panes.length c3)
  obtain ⟨q3, hq3⟩ := q2.setO hle 3 (.slice A4 r.hits.length c4)
  obtain ⟨q4, hq4⟩ := q3.setO hle 4 (.int .i64 r.lo)
  obtain ⟨q5, hq5⟩ := q4.setO hle 5 (.int .i64 r.hi)
  obtain ⟨q6, hq6⟩ := q5.setO hle 6 (.slice A5 r.ok.length c5)
  change E.setCell _ _ = _ at hq0
  have hR : IsRl (wout (fun k => decide (k < A.heap.size)) E) (.slice A3 r.panes.length c3) (.slice A4 r.hits.length c4) (.slice A5 r.ok.length c5) r := ⟨hIe.out, hHe.out, hKe.out⟩
  have hR0 := hR.cov (cov_set (o := 0) (u := .int .i64 r.item) hP2)
  rw [hq0] at hR0
  have hR1 := hR0.cov (cov_set (o := 1) (u := .int .i64 r.kind) hP2)
  rw [hq1] at hR1
  have hR2 := hR1.cov (cov_set (o := 2) (u := .slice A3 r.panes.length c3) hP2)
  rw [hq2] at hR2
  have hR3 := hR2.cov (cov_set (o := 3) (u := .slice A4 r.hits.length c4) hP2)
  rw [hq3] at hR3
  have hR4 := hR3.cov (cov_set (o := 4) (u := .int .i64 r.lo) hP2)
  rw [hq4] at hR4
  have hR5 := hR4.cov (cov_set (o := 5) (u := .int .i64 r.hi) hP2)
  rw [hq5] at hR5
  have hR6 := hR5.cov (cov_set (o := 6) (u := .slice A5 r.ok.length c5) hP2)
  rw [hq6] at hR6
  rw [hq0, hq1, hq2, hq3, hq4, hq5, hq6]
  exact ⟨A3, c3, A4, c4, A5, c5, rfl, q6, rfl, hR6.cov (cov_fresh (P := fun k => decide (k < W.heap.size)) fun k hk => by rw [decide_eq_false_iff_not]; omega)⟩
end Go.Proofs.Ytmpkbolabdmkkaa
