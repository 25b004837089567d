/- CONTRACT of PlacesReasons. -/
import Derived.Test.YtmpkbolabdmkkaaZRoH
import Derived.Test.YtmpkbolabdmkkaaZPlZ
import Derived.Test.YtmpkbolabdmkkaaZLawD
import Derived.Test.YtmpkbolabdmkkaaZe
namespace Go.Proofs.Ytmpkbolabdmkkaa
open Go.RowKit

set_option maxRecDepth 100000 in
set_option maxHeartbeats 4000000 in
theorem lawReasons {W : World} (x : Later W) (v0 v1 v2 vi : Value) (p : Prob) (pane o : Int) (it : List Int) (hp : IsProb W v0 v1 v2 p) (hi : IsInts W vi it) : Calls Try.prog 3 #[.agg #[v0, v1, v2], .int .i64 pane, .int .i64 o, vi] x.w (Ends W (.bool true)) := by
  go_enter Try.func3, Try.ntmps3
  go_upto_region 1 with (fail)
  obtain ⟨W1, x1, e1, hb1, s1, p0, p1, p2⟩ := enter3 x v0 v1 v2 26
  rw [e1]; clear e1
  have HP := Lib.hid (hp.below hb1)
  have HI := Lib.hid (hi.below hb1)
  obtain ⟨ap, cp, rfl, lp, _⟩ := hp.panes.opened
  obtain ⟨ao, co, rfl, lo, _⟩ := hp.opts.opened
  obtain ⟨ar, cr, rfl, lr, _⟩ := hp.rules.opened
  obtain ⟨ai, ci, rfl, li, _⟩ := hi.opened
  clear hp hi
  go_upto_region 2 with (go_at_call 14; refine (lawake x1).mono ?_; rintro e w' ⟨rfl, x1, rfl⟩)
  go_wp2_with (fail)
  refine (llight x1 _ _ _ p HP.out).mono ?_
  rintro e w' ⟨bs, rfl, x1, rfl⟩
  cases bs
  · go_wp2
    go_ret; exact ⟨rfl, x1.down hb1⟩
  by_cases g100 : 100 < it.length
  · go_wp2
    go_ret; exact ⟨rfl, x1.down hb1⟩
  have hB := hb1
  go_upto_region 6 with (first | (have hx := y1.h; clear hx; go_at_call 17; refine (rWitness (Later.now y1.w) _ _ _ p pane o (HP.out.below y1.h)).mono ?_; rintro e w' ⟨u, rfl, y2, rfl, hI⟩; have I2 := Lib.hid hI; obtain ⟨a2, c2, rfl, hx1, hx2⟩ := hI; clear hx1 hx2) | (go_at_call 16; refine (pWitness x1 _ _ _ p pane o HP.out).mono ?_; rintro e w' ⟨u, rfl, y1, rfl, hI⟩; have I1 := Lib.hid hI; obtain ⟨a1, c1, rfl, hx1, hx2⟩ := hI; clear hx1 hx2))
  have hb2 := below_then y1.h y2
  replace HP := Lib.hid (HP.out.below hb2)
  replace HI := Lib.hid (HI.out.below hb2)
  replace p0 := Later.cells hb2 p0
  replace p1 := Later.cells hb2 p1
  replace p2 := Later.cells hb2 p2
  replace s1 := Later.sizes hb2 s1
  replace I1 := Lib.hid (I1.out.below y2.h)
  replace hB := hB.trans (hb2.mono hB.size)
  obtain ⟨W2, hW2⟩ : ∃ W2, y2.w = W2 := ⟨_, rfl⟩
  rw [hW2] at HP HI I1 I2 p0 p1 p2 s1 hB ⊢
  clear hW2 hb2 y2 y1
  have hOn : Hid (∀ z : Later W2, ∃ Q : Prob, Calls Try.prog 18 #[.agg #[.slice ap p.panes.length cp, .slice ao p.opts.length co, .slice ar p.rules.length cr], .slice ai it.length ci] z.w (fun e w' => ∃ a3 l3 c3 a4 l4 c4 a5 l5 c5, e = .returned (.tuple #[.agg #[.slice a3 l3 c3, .slice a4 l4 c4, .slice a5 l5 c5], .int .i64 (onlyE p it)]) ∧ ∃ y : Later z.w, w' = y.w ∧ IsProb y.w (.slice a3 l3 c3) (.slice a4 l4 c4) (.slice a5 l5 c5) Q) ∧
      ∀ z' : Later W2, Calls Try.prog 19 #[.agg #[.slice ap p.panes.length cp, .slice ao p.opts.length co, .slice ar p.rules.length cr], .slice ai it.length ci] z'.w (fun e w' => ∃ a3 l3 c3 a4 l4 c4 a5 l5 c5, e = .returned (.tuple #[.agg #[.slice a3 l3 c3, .slice a4 l4 c4, .slice a5 l5 c5], .int .i64 (onlyE p it)]) ∧ ∃ y : Later z'.w, w' = y.w ∧ IsProb y.w (.slice a3 l3 c3) (.slice a4 l4 c4) (.slice a5 l5 c5) Q)) := Lib.hid (by
    intro z
    by_cases hE : onlyE p it = 0
    · refine ⟨onlyP p it, (pOnly (Later.now z.w) _ _ _ _ p it (HP.out.below z.h) (HI.out.below z.h)).mono ?_, fun z' => (rOnly (Later.now z'.w) _ _ _ _ p it (HP.out.below z'.h) (HI.out.below z'.h)).mono ?_⟩
      · rintro e w' ⟨_, _, _, rfl, ⟨⟨a3, l3, c3, rfl⟩, ⟨a4, l4, c4, rfl⟩, ⟨a5, l5, c5, rfl⟩⟩, y, rfl, hQ⟩
        exact ⟨_, _, _, _, _, _, _, _, _, rfl, y, rfl, hQ hE⟩
      · rintro e w' ⟨_, _, _, rfl, ⟨⟨a3, l3, c3, rfl⟩, ⟨a4, l4, c4, rfl⟩, ⟨a5, l5, c5, rfl⟩⟩, y, rfl, hQ⟩
        exact ⟨_, _, _, _, _, _, _, _, _, rfl, y, rfl, hQ hE⟩
    · refine ⟨⟨[], [], []⟩, (pOnlyN (Later.now z.w) _ _ _ _ p it (HP.out.below z.h) (HI.out.below z.h) hE).mono ?_, fun z' => (rOnlyN (Later.now z'.w) _ _ _ _ p it (HP.out.below z'.h) (HI.out.below z'.h) hE).mono ?_⟩
      · rintro e w' ⟨rfl, y, rfl⟩
        exact ⟨_, _, _, _, _, _, _, _, _, rfl, y, rfl, isProb_nil _⟩
      · rintro e w' ⟨rfl, y, rfl⟩
        exact ⟨_, _, _, _, _, _, _, _, _, rfl, y, rfl, isProb_nil _⟩)
  have hbase : Hid (∀ y : Later W2, Ends W (.bool true) (.returned (.bool true)) y.w) := Lib.hid (fun y => ⟨rfl, ⟨y.w, below_then hB y⟩, rfl⟩)
  show Code.wp _ _ _ _ (Later.now W2).w
  generalize Later.now W2 = xb
  obtain ⟨Q, hO1, hO2⟩ := hOn.out xb
  replace hO1 := Lib.hid hO1
  replace hO2 := Lib.hid hO2
  clear hOn
  go_upto_region 7 with (go_at_call 18; refine hO1.out.mono ?_; rintro e w' ⟨a3, l3, c3, a4, l4, c4, a5, l5, c5, rfl, y1, rfl, hQ⟩; have HQ1 := Lib.hid hQ; clear hQ)
  obtain ⟨b8, hEb8⟩ : ∃ b, y1.w.heap.size = b := ⟨_, rfl⟩
  obtain ⟨W3, hWW3⟩ : ∃ V, y1.w.alloc (.cells #[.slice a3 l3 c3, .slice a4 l4 c4, .slice a5 l5 c5] 26) = V := ⟨_, rfl⟩
  have hxW3 : Below y1.w.heap.size y1.w W3 := hWW3 ▸ below_alloc1 _ _
  have nb8 : b8 < W3.heap.size := by rw [← hWW3, ← hEb8]; simp
  have d0 : ∀ y : Later W3, y.w.cell? ⟨b8, 0, none⟩ = some (.slice a3 l3 c3) := Later.cell nb8 (by rw [← hWW3, ← hEb8]; exact World.cell?_alloc_at _ _ _ 0 rfl)
  have d1 : ∀ y : Later W3, y.w.cell? ⟨b8, 1, none⟩ = some (.slice a4 l4 c4) := Later.cell nb8 (by rw [← hWW3, ← hEb8]; exact World.cell?_alloc_at _ _ _ 1 rfl)
  have d2 : ∀ y : Later W3, y.w.cell? ⟨b8, 2, none⟩ = some (.slice a5 l5 c5) := Later.cell nb8 (by rw [← hWW3, ← hEb8]; exact World.cell?_alloc_at _ _ _ 2 rfl)
  have s8 : ∀ y : Later W3, b8 < y.w.heap.size := Later.size nb8
  have hyW3 : Below W2.heap.size W2 W3 := (below_then xb.h y1).trans (hxW3.mono (below_then xb.h y1).size)
  rw [hWW3, hEb8]
  replace HQ1 := Lib.hid (HQ1.out.below hxW3)
  replace HP := Lib.hid (HP.out.below hyW3)
  replace HI := Lib.hid (HI.out.below hyW3)
  replace I1 := Lib.hid (I1.out.below hyW3)
  replace I2 := Lib.hid (I2.out.below hyW3)
  replace p0 := Later.cells hyW3 p0
  replace p1 := Later.cells hyW3 p1
  replace p2 := Later.cells hyW3 p2
  replace s1 := Later.sizes hyW3 s1
  replace hB := hB.trans (hyW3.mono hB.size)
  clear hWW3 hEb8 hxW3 y1
  replace hO2 := Lib.hid (fun z : Later W3 => hO2.out ⟨z.w, below_then hyW3 z⟩)
  clear hbase
  show Code.wp _ _ _ _ (Later.now W3).w
  generalize Later.now W3 = xb
  go_upto_region 8 with (go_at_call 19; refine (hO2.out xb).mono ?_; rintro e w' ⟨a6, l6, c6, a7, l7, c7, a8, l8, c8, rfl, y1, rfl, hQ⟩; have HQ2 := Lib.hid hQ; clear hQ)
  obtain ⟨b9, hEb9⟩ : ∃ b, y1.w.heap.size = b := ⟨_, rfl⟩
  obtain ⟨W4, hWW4⟩ : ∃ V, y1.w.alloc (.cells #[.slice a6 l6 c6, .slice a7 l7 c7, .slice a8 l8 c8] 26) = V := ⟨_, rfl⟩
  have hxW4 : Below y1.w.heap.size y1.w W4 := hWW4 ▸ below_alloc1 _ _
  have nb9 : b9 < W4.heap.size := by rw [← hWW4, ← hEb9]; simp
  have e0 : ∀ y : Later W4, y.w.cell? ⟨b9, 0, none⟩ = some (.slice a6 l6 c6) := Later.cell nb9 (by rw [← hWW4, ← hEb9]; exact World.cell?_alloc_at _ _ _ 0 rfl)
  have e1 : ∀ y : Later W4, y.w.cell? ⟨b9, 1, none⟩ = some (.slice a7 l7 c7) := Later.cell nb9 (by rw [← hWW4, ← hEb9]; exact World.cell?_alloc_at _ _ _ 1 rfl)
  have e2 : ∀ y : Later W4, y.w.cell? ⟨b9, 2, none⟩ = some (.slice a8 l8 c8) := Later.cell nb9 (by rw [← hWW4, ← hEb9]; exact World.cell?_alloc_at _ _ _ 2 rfl)
  have s9 : ∀ y : Later W4, b9 < y.w.heap.size := Later.size nb9
  have hyW4 : Below W3.heap.size W3 W4 := (below_then xb.h y1).trans (hxW4.mono (below_then xb.h y1).size)
  rw [hWW4, hEb9]
  replace HQ2 := Lib.hid (HQ2.out.below hxW4)
  replace HP := Lib.hid (HP.out.below hyW4)
  replace HI := Lib.hid (HI.out.below hyW4)
  replace I1 := Lib.hid (I1.out.below hyW4)
  replace I2 := Lib.hid (I2.out.below hyW4)
  replace HQ1 := Lib.hid (HQ1.out.below hyW4)
  replace p0 := Later.cells hyW4 p0
  replace p1 := Later.cells hyW4 p1
  replace p2 := Later.cells hyW4 p2
  replace d0 := Later.cells hyW4 d0
  replace d1 := Later.cells hyW4 d1
  replace d2 := Later.cells hyW4 d2
  replace s1 := Later.sizes hyW4 s1
  replace s8 := Later.sizes hyW4 s8
  replace hB := hB.trans (hyW4.mono hB.size)
  clear hWW4 hEb9 hxW4 y1
  clear hyW4 hO2
  have hbase : Hid (∀ y : Later W4, Ends W (.bool true) (.returned (.bool true)) y.w) := Lib.hid (fun y => ⟨rfl, ⟨y.w, below_then hB y⟩, rfl⟩)
  show Code.wp _ _ _ _ (Later.now W4).w
  generalize Later.now W4 = xb
  have h20 : Hid (∀ (y : Later W4) (u v : Value) (l : List Int), IsInts W4 u l → IsInts W4 v l → Calls Try.prog 20 #[u, v] y.w (Ends W4 (.bool true))) := Lib.hid (fun y u v l hu hv => by have := rSameInts y u v l l hu hv; rwa [show decide (l = l) = true by simp] at this)
  have h21 := Lib.hid (fun y : Later W4 => rSameProblem y _ _ _ _ _ _ Q Q HQ1.out HQ2.out)
  rw [show decide (Q = Q) = true by simp] at h21
  go_upto_region 10 with (first | (go_at_call 20; refine (h20.out _ _ _ _ I1.out I2.out).mono ?_; rintro e w' ⟨rfl, xb, rfl⟩) | (go_at_call 21; refine (h21.out _).mono ?_; rintro e w' ⟨rfl, xb, rfl⟩))
  clear I1 I2 HQ1 HQ2 h20 h21
  go_upto_region 11 with (go_at_call 22; refine (pClash (Later.now xb.w) _ _ _ p (HP.out.below xb.h)).mono ?_; rintro e w' ⟨u, rfl, y3, rfl, hI⟩; have I3 := Lib.hid hI; obtain ⟨a14, c14, rfl, hx1, hx2⟩ := hI; clear hx1 hx2)
  have hb14 : Below W4.heap.size W4 y3.w := below_then xb.h y3
  replace HP := Lib.hid (HP.out.below hb14)
  replace p0 := Later.cells hb14 p0
  replace p1 := Later.cells hb14 p1
  replace p2 := Later.cells hb14 p2
  replace s1 := Later.sizes hb14 s1
  replace hB := hB.trans (hb14.mono hB.size)
  obtain ⟨W5, hW5⟩ : ∃ V, y3.w = V := ⟨_, rfl⟩
  rw [hW5] at HP p0 p1 p2 s1 hB I3  ⊢
  clear hW5 hb14 hbase y3 xb
  have hbase : Hid (∀ y : Later W5, Ends W (.bool true) (.returned (.bool true)) y.w) := Lib.hid (fun y => ⟨rfl, ⟨y.w, below_then hB y⟩, rfl⟩)
  show Code.wp _ _ _ _ (Later.now W5).w
  generalize Later.now W5 = xb
  go_upto_region 12 with (go_at_call 23; refine (rClash (Later.now xb.w) _ _ _ p (HP.out.below xb.h)).mono ?_; rintro e w' ⟨u, rfl, y3, rfl, hI⟩; have I4 := Lib.hid hI; obtain ⟨a15, c15, rfl, hx1, hx2⟩ := hI; clear hx1 hx2)
  have hb15 : Below W5.heap.size W5 y3.w := below_then xb.h y3
  replace HP := Lib.hid (HP.out.below hb15)
  replace p0 := Later.cells hb15 p0
  replace p1 := Later.cells hb15 p1
  replace p2 := Later.cells hb15 p2
  replace s1 := Later.sizes hb15 s1
  replace hB := hB.trans (hb15.mono hB.size)
  replace I3 := Lib.hid (I3.out.below (below_then xb.h y3))
  obtain ⟨W6, hW6⟩ : ∃ V, y3.w = V := ⟨_, rfl⟩
  rw [hW6] at HP p0 p1 p2 s1 hB I4 I3 ⊢
  clear hW6 hb15 hbase y3 xb
  have hbase : Hid (∀ y : Later W6, Ends W (.bool true) (.returned (.bool true)) y.w) := Lib.hid (fun y => ⟨rfl, ⟨y.w, below_then hB y⟩, rfl⟩)
  show Code.wp _ _ _ _ (Later.now W6).w
  generalize Later.now W6 = xb
  go_upto_region 13 with (go_at_call 24; refine (pReason (Later.now xb.w) _ _ _ p pane o (HP.out.below xb.h)).mono ?_; rintro e w' ⟨u, rfl, y3, rfl, hI⟩; have I5 := Lib.hid hI; obtain ⟨a16, c16, rfl, hx1, hx2⟩ := hI; clear hx1 hx2)
  have hb16 : Below W6.heap.size W6 y3.w := below_then xb.h y3
  replace HP := Lib.hid (HP.out.below hb16)
  replace p0 := Later.cells hb16 p0
  replace p1 := Later.cells hb16 p1
  replace p2 := Later.cells hb16 p2
  replace s1 := Later.sizes hb16 s1
  replace hB := hB.trans (hb16.mono hB.size)
  replace I3 := Lib.hid (I3.out.below (below_then xb.h y3))
  replace I4 := Lib.hid (I4.out.below (below_then xb.h y3))
  obtain ⟨W7, hW7⟩ : ∃ V, y3.w = V := ⟨_, rfl⟩
  rw [hW7] at HP p0 p1 p2 s1 hB I5 I3 I4 ⊢
  clear hW7 hb16 hbase y3 xb
  have hbase : Hid (∀ y : Later W7, Ends W (.bool true) (.returned (.bool true)) y.w) := Lib.hid (fun y => ⟨rfl, ⟨y.w, below_then hB y⟩, rfl⟩)
  show Code.wp _ _ _ _ (Later.now W7).w
  generalize Later.now W7 = xb
  go_upto_region 14 with (go_at_call 25; refine (rReason (Later.now xb.w) _ _ _ p pane o (HP.out.below xb.h)).mono ?_; rintro e w' ⟨u, rfl, y3, rfl, hI⟩; have I6 := Lib.hid hI; obtain ⟨a17, c17, rfl, hx1, hx2⟩ := hI; clear hx1 hx2)
  have hb17 : Below W7.heap.size W7 y3.w := below_then xb.h y3
  replace HP := Lib.hid (HP.out.below hb17)
  replace p0 := Later.cells hb17 p0
  replace p1 := Later.cells hb17 p1
  replace p2 := Later.cells hb17 p2
  replace s1 := Later.sizes hb17 s1
  replace hB := hB.trans (hb17.mono hB.size)
  replace I3 := Lib.hid (I3.out.below (below_then xb.h y3))
  replace I4 := Lib.hid (I4.out.below (below_then xb.h y3))
  replace I5 := Lib.hid (I5.out.below (below_then xb.h y3))
  obtain ⟨W8, hW8⟩ : ∃ V, y3.w = V := ⟨_, rfl⟩
  rw [hW8] at HP p0 p1 p2 s1 hB I6 I3 I4 I5 ⊢
  clear hW8 hb17 hbase y3 xb
  have hbase : Hid (∀ y : Later W8, Ends W (.bool true) (.returned (.bool true)) y.w) := Lib.hid (fun y => ⟨rfl, ⟨y.w, below_then hB y⟩, rfl⟩)
  show Code.wp _ _ _ _ (Later.now W8).w
  generalize Later.now W8 = xb
  have h20 : Hid (∀ (y : Later W8) (u v : Value) (l : List Int), IsInts W8 u l → IsInts W8 v l → Calls Try.prog 20 #[u, v] y.w (Ends W8 (.bool true))) := Lib.hid (fun y u v l hu hv => by have := rSameInts y u v l l hu hv; rwa [show decide (l = l) = true by simp] at this)
  go_wp2_with (first | (go_at_call 20; (with_reducible refine (h20.out _ _ _ _ I3.out I4.out).mono ?_); rintro e w' ⟨rfl, xb, rfl⟩) | (go_at_call 20; (with_reducible refine (h20.out _ _ _ _ I5.out I6.out).mono ?_); rintro e w' ⟨rfl, xb, rfl⟩))
  go_ret; exact hbase.out _
end Go.Proofs.Ytmpkbolabdmkkaa
