/- CONTRACT of the reference's Survey. -/
import Derived.Test.YtmpkbolabdmkkaaZRfE
import Derived.Test.YtmpkbolabdmkkaaZSuG
import Derived.Test.YtmpkbolabdmkkaaZc
namespace Go.Proofs.Ytmpkbolabdmkkaa
open Go.RowKit

set_option maxRecDepth 100000 in
set_option maxHeartbeats 4000000 in
theorem rSurvey {W : World} (x : Later W) (v0 v1 v2 : Value) (p : Prob) (hp : IsProb W v0 v1 v2 p) (ht : largeE p = 0 → total p ≤ 300) :
    Calls Try.prog 60 #[.agg #[v0, v1, v2]] x.w (EndsNd W (survT p) (largeE p)) := by
  go_enter Try.func60, Try.ntmps60
  go_upto_region 1 with (fail)
  obtain ⟨W1, x1, e1, hb1, s1, p0, p1, p2⟩ := enter3 x v0 v1 v2 26
  rw [show x.w.heap.size + 1 = x1.w.heap.size by rw [← e1]; simp, e1]
  clear e1
  obtain ⟨b1, hB1⟩ : ∃ b, x.w.heap.size = b := ⟨_, rfl⟩
  rw [hB1] at p0 p1 p2 s1 ⊢
  clear hB1
  obtain ⟨b2, hB2⟩ : ∃ b, x1.w.heap.size = b := ⟨_, rfl⟩
  obtain ⟨W2, hW2⟩ : ∃ V, x1.w.alloc (.cells #[.int .i64 0, .int .i64 0, .slice none 0 0] 64) = V := ⟨_, rfl⟩
  have hx2 : Below x1.w.heap.size x1.w W2 := hW2 ▸ below_alloc1 _ _
  have B2 : BoxAt W2 b2 (.int .i64 0) (.int .i64 0) (.slice none 0 0) := by
    rw [← hW2, ← hB2]
    exact ⟨by simp, World.cell?_alloc_at _ _ _ 0 rfl, World.cell?_alloc_at _ _ _ 1 rfl, World.cell?_alloc_at _ _ _ 2 rfl, World.frozen?_alloc_at _ _ _ 0 rfl, World.frozen?_alloc_at _ _ _ 1 rfl, World.frozen?_alloc_at _ _ _ 2 rfl⟩
  have hb2 : Below W1.heap.size W1 W2 := x1.h.trans (hx2.mono x1.h.size)
  have hWb2 : W.heap.size ≤ b2 := by have := x1.h.size; have := hb1.size; omega
  rw [hW2, hB2]
  clear hW2 hB2 hx2 x1
  have hbw : Below W.heap.size W W2 := hb1.trans (hb2.mono hb1.size)
  have HP := Lib.hid (hp.below hbw)
  obtain ⟨ap, cp, rfl, lp, _⟩ := hp.panes.opened
  obtain ⟨ao, co, rfl, lo, _⟩ := hp.opts.opened
  obtain ⟨ar, cr, rfl, lr, _⟩ := hp.rules.opened
  replace p0 := Later.cells hb2 p0
  replace p1 := Later.cells hb2 p1
  replace p2 := Later.cells hb2 p2
  replace s1 := Later.sizes hb2 s1
  clear hp hb1 hb2
  have e0 : ∀ y : Later W2, y.w.cell? ⟨b2, 0, none⟩ = some (.int .i64 0) := Later.cell B2.lt B2.c0
  have e1 : ∀ y : Later W2, y.w.cell? ⟨b2, 1, none⟩ = some (.int .i64 0) := Later.cell B2.lt B2.c1
  have e2 : ∀ y : Later W2, y.w.cell? ⟨b2, 2, none⟩ = some (.slice none 0 0) := Later.cell B2.lt B2.c2
  have f0 : ∀ y : Later W2, y.w.frozen? ⟨b2, 0, none⟩ = false := Later.frozen B2.lt B2.f0
  have f1 : ∀ y : Later W2, y.w.frozen? ⟨b2, 1, none⟩ = false := Later.frozen B2.lt B2.f1
  have f2 : ∀ y : Later W2, y.w.frozen? ⟨b2, 2, none⟩ = false := Later.frozen B2.lt B2.f2
  have s2 : ∀ y : Later W2, b2 < y.w.heap.size := Later.size B2.lt
  clear B2
  have hset : Hid (∀ (y : Later W2) (u0 u1 u2 : Value), ∃ z : Later W, ((y.w.setCell ⟨b2, 0, none⟩ u0).setCell ⟨b2, 1, none⟩ u1).setCell ⟨b2, 2, none⟩ u2 = z.w) := Lib.hid (fun y u0 u1 u2 => by
    obtain ⟨z1, hz1⟩ := (⟨y.w, below_then hbw y⟩ : Later W).setO hWb2 0 u0
    obtain ⟨z2, hz2⟩ := z1.setO hWb2 1 u1
    obtain ⟨z3, hz3⟩ := z2.setO hWb2 2 u2
    change y.w.setCell _ _ = _ at hz1
    exact ⟨z3, by rw [hz1, hz2, hz3]⟩)
  have hA := Lib.hid (fun y : Later W2 => rlarge y _ _ _ p HP.out)
  show Code.wp _ _ _ _ (Later.now W2).w
  generalize Later.now W2 = x1
  by_cases h0 : largeE p = 0
  case neg =>
    have hb0 : (largeE p != 0) = true := by simp [h0]
    have hT : Hid (survT p = .mk 0 0 []) := Lib.hid (by unfold survT; rw [if_neg h0])
    clear h0
    go_wp2_with (go_at_call 82; refine (hA.out _).mono ?_; rintro e w' ⟨rfl, x1, rfl⟩)
    obtain ⟨t0, t1, t2⟩ := three_set (u0 := .int .i64 0) (u1 := .int .i64 0) (u2 := .slice none 0 0) (e0 x1) (e1 x1) (e2 x1)
    refine bodyPost_ret (results_ct rfl rfl (loadVar_node t0 t1 t2)) rfl ?_
    obtain ⟨z, hz⟩ := hset.out x1 (.int .i64 0) (.int .i64 0) (.slice none 0 0)
    rw [hz, hT.out]
    exact ⟨_, rfl, ⟨_, _, _, rfl⟩, z, rfl, isNd_leaf _ _ _⟩
  have hb0 : (largeE p != 0) = false := by simp [h0]
  obtain ⟨hval, _⟩ := largeE_0.1 h0
  have hT : Hid (survT p = surv p p.opts.length []) := Lib.hid (by unfold survT; rw [if_pos h0])
  have h300 := ht h0
  have hsm := surv_small hval h300
  have hE0 := Lib.hid h0
  have hcall := Lib.hid (fun y : Later W2 => rsurvey p _ _ _ (HP.out.below y.h) hval p.opts.length [] (by simp) (fun i hi => absurd hi (Nat.not_lt_zero _)) y.w (.slice none 0 0) 200000 (Below.refl _ _) (isInts_nil _) (by omega) (by omega))
  obtain ⟨t, hte⟩ : ∃ t, surv p p.opts.length [] = t := ⟨_, rfl⟩
  rw [hte] at hcall hT hsm
  obtain ⟨sz, hsz⟩ : ∃ n, szN t = n := ⟨_, rfl⟩
  have hcall2 := Lib.hid (fun y : Later W2 => (hcall.out y).mono (R' := fun e w' => ∃ k, e = .returned (.tuple #[.agg #[.int .i64 t.kind, .int .i64 t.index, k], .int .i64 (sz : Nat)]) ∧ isSl k ∧ Below y.w.heap.size y.w w' ∧ IsNd (wout (fun q => decide (q < y.w.heap.size)) w') k t) (fun e w' h => let ⟨k, h1, h2, h3, h4⟩ := h; ⟨k, by rw [h1, hsz], h2, h3, h4⟩))
  rw [hsz] at hsm
  have hsz2 : ¬ (200000 : Int) < (sz : Int) := by omega
  replace h0 := Lib.hid h0
  clear hcall hte hsz hsm
  go_upto_region 4 with (go_at_call 82; refine (hA.out _).mono ?_; rintro e w' ⟨rfl, x1, rfl⟩)
  go_upto_region 5 with (go_at_call 118; refine (hcall2.out x1).mono ?_; rintro e w3 ⟨_, rfl, ⟨a4, l4, c4, rfl⟩, hb3, hN4⟩; have hM4 := Lib.hid hN4; clear hN4)
  obtain ⟨kN, hkN⟩ : ∃ q, t.kind = q := ⟨_, rfl⟩
  obtain ⟨kI, hkI⟩ : ∃ q, t.index = q := ⟨_, rfl⟩
  rw [hkN, hkI]
  obtain ⟨b5, hB5⟩ : ∃ b, w3.heap.size = b := ⟨_, rfl⟩
  obtain ⟨W5, hW5⟩ : ∃ V, w3.alloc (.cells #[.int .i64 kN, .int .i64 kI, .slice a4 l4 c4] 64) = V := ⟨_, rfl⟩
  have hx5 : Below w3.heap.size w3 W5 := hW5 ▸ below_alloc1 _ _
  have B5 : BoxAt W5 b5 (.int .i64 kN) (.int .i64 kI) (.slice a4 l4 c4) := by
    rw [← hW5, ← hB5]
    exact ⟨by simp, World.cell?_alloc_at _ _ _ 0 rfl, World.cell?_alloc_at _ _ _ 1 rfl, World.cell?_alloc_at _ _ _ 2 rfl, World.frozen?_alloc_at _ _ _ 0 rfl, World.frozen?_alloc_at _ _ _ 1 rfl, World.frozen?_alloc_at _ _ _ 2 rfl⟩
  have hx : Below W2.heap.size W2 W5 := (x1.h.trans (hb3.mono x1.h.size)).trans (hx5.mono (Nat.le_trans x1.h.size hb3.size))
  have hlt25 : b2 < b5 := by rw [← hB5]; exact Nat.lt_of_lt_of_le (s2 x1) hb3.size
  have hN5 := Lib.hid (hM4.out.cov (cov_below hx5) _)
  have hP2 : decide (b2 < x1.w.heap.size) = true := decide_eq_true (s2 x1)
  obtain ⟨n1, hn1⟩ : ∃ n, x1.w.heap.size = n := ⟨_, rfl⟩
  rw [hn1] at hN5 hP2
  rw [hW5, hB5]
  clear hW5 hB5 hb3 hx5 hM4 hn1 x1
  have q0 := B5.c0
  have q1 := B5.c1
  have q2 := B5.c2
  have qz := B5.lt
  obtain ⟨y5, hy5⟩ : ∃ y : Later W2, W5 = y.w := ⟨⟨W5, hx⟩, rfl⟩
  subst hy5
  clear B5
  go_wp2
  obtain ⟨t0, t1, t2⟩ := three_set (u0 := .int .i64 kN) (u1 := .int .i64 kI) (u2 := .slice a4 l4 c4) (e0 y5) (e1 y5) (e2 y5)
  refine bodyPost_ret (results_ct rfl rfl (loadVar_node t0 t1 t2)) rfl ?_
  obtain ⟨z, hz⟩ := hset.out y5 (.int .i64 kN) (.int .i64 kI) (.slice a4 l4 c4)
  have hfin := ((hN5.out.cov (cov_set (o := 0) (u := .int .i64 kN) hP2) _).cov (cov_set (o := 1) (u := .int .i64 kI) hP2) _).cov (cov_set (o := 2) (u := .slice a4 l4 c4) hP2) _
  rw [hz] at hfin ⊢
  rw [hT.out]
  exact ⟨_, by rw [hkN, hkI, hE0.out]; rfl, ⟨_, _, _, rfl⟩, z, rfl, hfin.cov (cov_all _ _) _⟩
end Go.Proofs.Ytmpkbolabdmkkaa
