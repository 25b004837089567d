/- CONTRACT of PlacesSurveys. -/
import Derived.Test.YtmpkbolabdmkkaaZm
import Derived.Test.YtmpkbolabdmkkaaZSuM
import Derived.Test.YtmpkbolabdmkkaaZSuN
import Derived.Test.YtmpkbolabdmkkaaZe
import Derived.Test.YtmpkbolabdmkkaaZq
import Derived.Test.YtmpkbolabdmkkaaZRfF
import Derived.Test.YtmpkbolabdmkkaaZRfG
namespace Go.Proofs.Ytmpkbolabdmkkaa
open Go.RowKit

set_option maxRecDepth 100000 in
set_option maxHeartbeats 4000000 in
theorem lawSurveys {W : World} (x : Later W) (v0 v1 v2 k : Value) (p : Prob) (n : Nd) (hp : IsProb W v0 v1 v2 p) (hcap : ProbCap W v2) (hk : IsNd W k n) :
    Calls Try.prog 12 #[.agg #[v0, v1, v2], .agg #[.int .i64 n.kind, .int .i64 n.index, k]] x.w (Ends W (.bool true)) := by
  obtain ⟨wv, hwv⟩ : ∃ q, q = wideN n 400 := ⟨_, rfl⟩
  have hsz : wv ≤ 400 → Hid (szN n ≤ 200000) := fun h => Lib.hid (by have := (wideN_bd n 400 (by omega)).2.2 (by omega); omega)
  obtain ⟨kN, hkN⟩ : ∃ q, n.kind = q := ⟨_, rfl⟩
  obtain ⟨kI, hkI⟩ : ∃ q, n.index = q := ⟨_, rfl⟩
  rw [hkN, hkI]
  go_enter Try.func12, Try.ntmps12
  go_upto_region 1 with (fail)
  obtain ⟨W1, x1, e1, hb1, s1, p0, p1, p2⟩ := enter3 x v0 v1 v2 26
  rw [show x.w.heap.size + 1 = x1.w.heap.size by rw [← e1]; simp, e1]
  clear e1
  obtain ⟨b2, hB2⟩ : ∃ b, x.w.heap.size = b := ⟨_, rfl⟩
  rw [hB2] at p0 p1 p2 s1 ⊢
  clear hB2
  obtain ⟨W2, x2, e2, hb2, s2, q0, q1, q2⟩ := enter3 x1 (.int .i64 kN) (.int .i64 kI) k 64
  rw [e2]
  clear e2
  obtain ⟨b3, hB3⟩ : ∃ b, x1.w.heap.size = b := ⟨_, rfl⟩
  rw [hB3] at q0 q1 q2 s2 ⊢
  clear hB3 x1 x
  replace p0 := Later.cells hb2 p0
  replace p1 := Later.cells hb2 p1
  replace p2 := Later.cells hb2 p2
  replace s1 := Later.sizes hb2 s1
  have hB := hb1.trans (hb2.mono hb1.size)
  have HP := Lib.hid (hp.below hB)
  have HC := Lib.hid (hcap.below hp.rules hB)
  have HK := Lib.hid (hk.below hB)
  obtain ⟨ap, cp, rfl, lp, _⟩ := hp.panes.opened
  obtain ⟨ao, co, rfl, lo, _⟩ := hp.opts.opened
  obtain ⟨ar, cr, rfl, lr, _⟩ := hp.rules.opened
  obtain ⟨ak, ck, rfl, lk, _⟩ := hk.opened
  clear hp hcap hk hb1 hb2
  have hwide : Hid (∀ y : Later W2, Calls Try.prog 58 #[.agg #[.int .i64 kN, .int .i64 kI, .slice ak n.kids.length ck], .int .i64 400] y.w (Ends W2 (.int .i64 wv))) := Lib.hid (fun y => by rw [hwv, ← hkN, ← hkI]; exact pwide y _ n 400 (by decide) (by decide) HK.out)
  clear hwv
  go_upto_region 2 with (go_at_call 14; refine (lawake x2).mono ?_; rintro e w' ⟨rfl, x2, rfl⟩)
  go_wp2_with (fail)
  refine (llightF x2 _ _ _ p HP.out).mono ?_
  rintro e w' ⟨bs, rfl, hl, x2, rfl⟩
  cases bs
  · go_wp2
    go_ret; exact ⟨rfl, x2.down hB⟩
  have h300 := Lib.hid (hl rfl)
  clear hl
  by_cases hw : 400 < wv
  · go_wp2_with (go_at_call 58; refine (hwide.out x2).mono ?_; rintro e w' ⟨rfl, x2, rfl⟩)
    go_ret; exact ⟨rfl, x2.down hB⟩
  replace hsz := hsz (by omega)
  obtain ⟨E, hE⟩ : ∃ E, largeE p = E := ⟨_, rfl⟩
  have hsv : Hid (∀ y : Later W2, Calls Try.prog 59 #[.agg #[.slice ap p.panes.length cp, .slice ao p.opts.length co, .slice ar p.rules.length cr]] y.w (EndsNd W2 (survT p) E)) := Lib.hid (fun y => by have h := pSurvey y _ _ _ p HP.out HC.out h300.out; rw [hE] at h; exact h)
  have hsr : Hid (∀ (V : World) (_ : Below W2.heap.size W2 V) (y : Later V), Calls Try.prog 60 #[.agg #[.slice ap p.panes.length cp, .slice ao p.opts.length co, .slice ar p.rules.length cr]] y.w (EndsNd V (survT p) E)) := Lib.hid (fun V hV y => by have h := rSurvey y _ _ _ p (HP.out.below hV) h300.out; rw [hE] at h; exact h)
  have hck : Hid (∀ (V : World) (_ : Below W2.heap.size W2 V) (y : Later V), Calls Try.prog 62 #[.agg #[.slice ap p.panes.length cp, .slice ao p.opts.length co, .slice ar p.rules.length cr], .agg #[.int .i64 kN, .int .i64 kI, .slice ak n.kids.length ck]] y.w (EndsChk V (chkC p n) (chkT p n) (chkE p n))) := Lib.hid (fun V hV y => by have h := pCheck y _ _ _ _ p n (HP.out.below hV) (HC.out.below HP.out.rules hV) (HK.out.below hV) hsz.out; rw [hkN, hkI] at h; exact h)
  have hcr : Hid (∀ (V : World) (_ : Below W2.heap.size W2 V) (y : Later V), Calls Try.prog 63 #[.agg #[.slice ap p.panes.length cp, .slice ao p.opts.length co, .slice ar p.rules.length cr], .agg #[.int .i64 kN, .int .i64 kI, .slice ak n.kids.length ck]] y.w (EndsChk V (chkC p n) (chkT p n) (chkE p n))) := Lib.hid (fun V hV y => by have h := rCheck y _ _ _ _ p n (HP.out.below hV) (HK.out.below hV) hsz.out; rw [hkN, hkI] at h; exact h)
  obtain ⟨cn, hcn⟩ : ∃ q, chkC p n = q := ⟨_, rfl⟩
  obtain ⟨tn, htn⟩ : ∃ q, chkT p n = q := ⟨_, rfl⟩
  obtain ⟨en, hen⟩ : ∃ q, chkE p n = q := ⟨_, rfl⟩
  rw [hcn, htn, hen] at hck hcr
  clear hE hcn htn hen h300
  obtain ⟨sK, hsK⟩ : ∃ q, (survT p).kind = q := ⟨_, rfl⟩
  obtain ⟨sI, hsI⟩ : ∃ q, (survT p).index = q := ⟨_, rfl⟩
  replace hsK := Lib.hid hsK
  replace hsI := Lib.hid hsI
  go_upto_region 5 with (first | (go_at_call 58; refine (hwide.out x2).mono ?_; rintro e w' ⟨rfl, x2, rfl⟩) | (go_at_call 59; refine (hsv.out x2).mono ?_; rintro e w' ⟨k4, rfl, ⟨a4, l4, c4, rfl⟩, y4, rfl, hN4⟩; have hM4 := Lib.hid hN4; clear hN4))
  rw [hsK.out, hsI.out]
  obtain ⟨b6, hB6⟩ : ∃ b, y4.w.heap.size = b := ⟨_, rfl⟩
  obtain ⟨W5, hW5⟩ : ∃ V, y4.w.alloc (.cells #[.int .i64 sK, .int .i64 sI, .slice a4 l4 c4] 64) = V := ⟨_, rfl⟩
  have hb5 : Below y4.w.heap.size y4.w W5 := hW5 ▸ below_alloc1 _ _
  have n6 : b6 < W5.heap.size := by rw [← hW5, ← hB6]; simp
  have t0 : ∀ y : Later W5, y.w.cell? ⟨b6, 0, none⟩ = some (.int .i64 sK) := Later.cell n6 (by rw [← hW5, ← hB6]; exact World.cell?_alloc_at _ _ _ 0 rfl)
  have t1 : ∀ y : Later W5, y.w.cell? ⟨b6, 1, none⟩ = some (.int .i64 sI) := Later.cell n6 (by rw [← hW5, ← hB6]; exact World.cell?_alloc_at _ _ _ 1 rfl)
  have t2 : ∀ y : Later W5, y.w.cell? ⟨b6, 2, none⟩ = some (.slice a4 l4 c4) := Later.cell n6 (by rw [← hW5, ← hB6]; exact World.cell?_alloc_at _ _ _ 2 rfl)
  have t3 : ∀ y : Later W5, b6 < y.w.heap.size := Later.size n6
  have hW25 : Below W2.heap.size W2 W5 := y4.h.trans (hb5.mono y4.h.size)
  have hN5 := Lib.hid (hM4.out.below hb5)
  replace p0 := Later.cells hW25 p0
  replace p1 := Later.cells hW25 p1
  replace p2 := Later.cells hW25 p2
  replace q0 := Later.cells hW25 q0
  replace q1 := Later.cells hW25 q1
  replace q2 := Later.cells hW25 q2
  replace s1 := Later.sizes hW25 s1
  replace s2 := Later.sizes hW25 s2
  have hr5 := Lib.hid (hsr.out W5 hW25)
  rw [hW5, hB6]
  clear hW5 hB6 hb5 hM4 n6 y4 hsv hsr hwide
  show Code.wp _ _ _ _ (Later.now W5).w
  generalize Later.now W5 = x5
  go_upto_region 6 with (go_at_call 60; refine (hr5.out x5).mono ?_; rintro e w' ⟨k7, rfl, ⟨a7, l7, c7, rfl⟩, y7, rfl, hN7⟩; have hM7 := Lib.hid hN7; clear hN7)
  rw [hsK.out, hsI.out]
  obtain ⟨b8, hB8⟩ : ∃ b, y7.w.heap.size = b := ⟨_, rfl⟩
  obtain ⟨W8, hW8⟩ : ∃ V, y7.w.alloc (.cells #[.int .i64 sK, .int .i64 sI, .slice a7 l7 c7] 64) = V := ⟨_, rfl⟩
  have hb8 : Below y7.w.heap.size y7.w W8 := hW8 ▸ below_alloc1 _ _
  have n8 : b8 < W8.heap.size := by rw [← hW8, ← hB8]; simp
  have u0 : ∀ y : Later W8, y.w.cell? ⟨b8, 0, none⟩ = some (.int .i64 sK) := Later.cell n8 (by rw [← hW8, ← hB8]; exact World.cell?_alloc_at _ _ _ 0 rfl)
  have u1 : ∀ y : Later W8, y.w.cell? ⟨b8, 1, none⟩ = some (.int .i64 sI) := Later.cell n8 (by rw [← hW8, ← hB8]; exact World.cell?_alloc_at _ _ _ 1 rfl)
  have u2 : ∀ y : Later W8, y.w.cell? ⟨b8, 2, none⟩ = some (.slice a7 l7 c7) := Later.cell n8 (by rw [← hW8, ← hB8]; exact World.cell?_alloc_at _ _ _ 2 rfl)
  have u3 : ∀ y : Later W8, b8 < y.w.heap.size := Later.size n8
  have hW58 : Below W5.heap.size W5 W8 := y7.h.trans (hb8.mono y7.h.size)
  have hW28 := hW25.trans (hW58.mono hW25.size)
  have hB9 := hB.trans (hW28.mono hB.size)
  have hsame : Hid (∀ y : Later W8, Calls Try.prog 61 #[.agg #[.int .i64 sK, .int .i64 sI, .slice a4 l4 c4], .agg #[.int .i64 sK, .int .i64 sI, .slice a7 l7 c7]] y.w (Ends W8 (.bool true))) := Lib.hid (fun y => by rw [← hsK.out, ← hsI.out]; exact rSameNodes y _ _ (survT p) (hN5.out.below hW58) (hM7.out.below hb8))
  replace p0 := Later.cells hW58 p0
  replace p1 := Later.cells hW58 p1
  replace p2 := Later.cells hW58 p2
  replace q0 := Later.cells hW58 q0
  replace q1 := Later.cells hW58 q1
  replace q2 := Later.cells hW58 q2
  replace s1 := Later.sizes hW58 s1
  replace s2 := Later.sizes hW58 s2
  replace t0 := Later.cells hW58 t0
  replace t1 := Later.cells hW58 t1
  replace t2 := Later.cells hW58 t2
  replace t3 := Later.sizes hW58 t3
  have hc8 := Lib.hid (hck.out W8 hW28)
  have hd8 := hcr
  rw [hW8, hB8]
  clear hW8 hB8 hb8 hM7 hN5 n8 y7 hck hcr hW58 hW25 hr5 hB HC HK hsz hsK hsI
  show Code.wp _ _ _ _ (Later.now W8).w
  generalize Later.now W8 = x8
  go_upto_region 9 with (first | (go_at_call 61; refine (hsame.out x8).mono ?_; rintro e w' ⟨rfl, x8, rfl⟩) | (go_at_call 62; refine (hc8.out x8).mono ?_; rintro e w' ⟨u, rfl, y9, rfl, hI⟩; have I9 := Lib.hid hI; obtain ⟨a9, c9, rfl, hx1, hx2⟩ := hI; clear hx1 hx2))
  have hd9 := Lib.hid (hd8.out y9.w (hW28.trans (y9.h.mono hW28.size)))
  have hB10 := below_then hB9 y9
  replace p0 := Later.cells y9.h p0
  replace p1 := Later.cells y9.h p1
  replace p2 := Later.cells y9.h p2
  replace q0 := Later.cells y9.h q0
  replace q1 := Later.cells y9.h q1
  replace q2 := Later.cells y9.h q2
  replace s1 := Later.sizes y9.h s1
  replace s2 := Later.sizes y9.h s2
  clear hd8 hc8 hsame hB9 t0 t1 t2 t3 u0 u1 u2 u3 HP
  obtain ⟨W9, hW9⟩ : ∃ V, y9.w = V := ⟨_, rfl⟩
  rw [hW9] at hd9 hB10 p0 p1 p2 q0 q1 q2 s1 s2 I9 ⊢
  clear hW9 hW28 y9
  show Code.wp _ _ _ _ (Later.now W9).w
  generalize Later.now W9 = x9
  go_upto_region 10 with (go_at_call 63; refine (hd9.out x9).mono ?_; rintro e w' ⟨u, rfl, y10, rfl, hI⟩; have I10 := Lib.hid hI; obtain ⟨a10, c10, rfl, hx1, hx2⟩ := hI; clear hx1 hx2)
  have hS2 : Hid (∀ y : Later y10.w, Calls Try.prog 45 #[.slice a9 tn.length c9, .slice a10 tn.length c10] y.w (Ends y10.w (.bool true))) := Lib.hid (fun y => by have h := rSameTables y _ _ _ _ (I9.out.below y10.h) I10.out; rw [decide_eq_true rfl] at h; exact h)
  go_wp2_with (go_at_call 45; refine (hS2.out (Later.now y10.w)).mono ?_; rintro e w' ⟨rfl, z6, rfl⟩)
  go_ret; exact ⟨rfl, ⟨z6.w, below_then (below_then hB10 y10) z6⟩, rfl⟩
end Go.Proofs.Ytmpkbolabdmkkaa
