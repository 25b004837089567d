/- CONTRACT of the laws' awake. -/
import Derived.Test.YtmpkbolabdmkkaaZLawA
namespace Go.Proofs.Ytmpkbolabdmkkaa
open Go.RowKit

/-- two numbers in memory -/
theorem two_ints {w : World} {v : Value} {a b : Int} (h : IsInts w v [a, b]) : ∃ g o c, v = .slice (some ⟨g, o, none⟩) 2 c ∧ (∀ y : Later w, g < y.w.heap.size) ∧ (∀ y : Later w, y.w.cell? ⟨g, o, none⟩ = some (.int .i64 a)) ∧ ∀ y : Later w, y.w.cell? ⟨g, o + 1, none⟩ = some (.int .i64 b) := by
  obtain ⟨A, c, rfl, _, hI⟩ := h.opened
  obtain ⟨g, o, rfl, hs, c0⟩ := hI.out 0 (by simp)
  obtain ⟨g', o', he, _, c1⟩ := hI.out 1 (by simp)
  cases he
  exact ⟨g, o, c, rfl, hs, c0, c1⟩

set_option maxRecDepth 100000 in
set_option maxHeartbeats 1000000 in
theorem lawake {W : World} (x : Later W) : Calls Try.prog 14 #[] x.w (Ends W (.bool true)) := by
  obtain ⟨hr1, hr2⟩ := ex_reason
  have hc := ex_clash
  obtain ⟨hn1, hn2⟩ := ex_count
  obtain ⟨hf1, hf2⟩ := ex_first
  replace hr2 := Lib.hid hr2
  replace hf2 := Lib.hid hf2
  go_enter Try.func14, Try.ntmps14
  go_upto_region 2 with (go_at_call 64; refine (lexample x).mono ?_; rintro e w' ⟨v0, v1, v2, rfl, y, rfl, hp⟩; have HP0 := Lib.hid hp; obtain ⟨ap, cp, rfl, _, _⟩ := hp.panes.opened; obtain ⟨ao, co, rfl, _, _⟩ := hp.opts.opened; obtain ⟨ar, cr, rfl, _, _⟩ := hp.rules.opened; clear hp)
  obtain ⟨W1, x1, e1, hb1, s1, p0, p1, p2⟩ := enter3 (Later.now y.w) (.slice ap exP.panes.length cp) (.slice ao exP.opts.length co) (.slice ar exP.rules.length cr) 26
  change y.w.alloc _ = _ at e1
  rw [e1]; clear e1
  change ∀ z : Later W1, z.w.cell? ⟨y.w.heap.size, 0, none⟩ = _ at p0
  change ∀ z : Later W1, z.w.cell? ⟨y.w.heap.size, 1, none⟩ = _ at p1
  change ∀ z : Later W1, z.w.cell? ⟨y.w.heap.size, 2, none⟩ = _ at p2
  change ∀ z : Later W1, y.w.heap.size < z.w.heap.size at s1
  have hbW : Below W.heap.size W W1 := below_then y.h ⟨W1, hb1⟩
  have HP := Lib.hid (HP0.out.below hb1)
  go_upto_region 3 with (go_at_call 30; refine (pFirst x1 _ _ _ exP HP.out).mono ?_; rintro e w' ⟨v, rfl, x2, rfl, hI⟩; rw [hf2.out] at hI; obtain ⟨g1, o1, c1, rfl, hs1, hi1, hj1⟩ := two_ints hI; clear hI)
  have HP2 := Lib.hid (HP.out.below x2.h)
  replace p0 := Later.cells x2.h p0
  replace p1 := Later.cells x2.h p1
  replace p2 := Later.cells x2.h p2
  show Code.wp _ _ _ _ (Later.now x2.w).w
  have hb2 := below_then hbW x2
  generalize Later.now x2.w = x3
  go_upto_region 4 with (go_at_call 24; refine (pReason x3 _ _ _ exP 0 1 HP2.out).mono ?_; rintro e w' ⟨v, rfl, x4, rfl, hI⟩; rw [hr2.out] at hI; obtain ⟨g2, o2, c2, rfl, hs2, hi2, hj2⟩ := two_ints hI; clear hI)
  have HP3 := Lib.hid (HP2.out.below x4.h)
  replace p0 := Later.cells x4.h p0
  replace p1 := Later.cells x4.h p1
  replace p2 := Later.cells x4.h p2
  replace hi1 := Later.cells x4.h hi1
  replace hj1 := Later.cells x4.h hj1
  show Code.wp _ _ _ _ (Later.now x4.w).w
  have hb3 := below_then hb2 x4
  generalize Later.now x4.w = x5
  go_wp2_with (first | (go_at_call 22; refine (pClash x5 _ _ _ exP HP3.out).mono ?_; rintro e w' ⟨v, rfl, x6, rfl, hI⟩; obtain ⟨a3, c3, rfl, _, _⟩ := hI) | (go_at_call 28; refine (pCount x6 _ _ _ exP HP3.out).mono ?_; rintro e w' ⟨rfl, x7, rfl⟩))
  go_ret; exact ⟨rfl, ⟨x7.w, below_then hb3 x7⟩, rfl⟩
end Go.Proofs.Ytmpkbolabdmkkaa
