/- CONTRACT of PlacesFills. -/
import Derived.Test.YtmpkbolabdmkkaaZLawD
import Derived.Test.YtmpkbolabdmkkaaZPmB
import Derived.Test.YtmpkbolabdmkkaaZe
import Derived.Test.YtmpkbolabdmkkaaZd
namespace Go.Proofs.Ytmpkbolabdmkkaa
open Go.RowKit

set_option maxRecDepth 100000 in
set_option maxHeartbeats 4000000 in
theorem lawFills {W : World} (x : Later W) (v0 v1 v2 vf : Value) (p : Prob) (f : List Int) (piece : Int) (hp : IsProb W v0 v1 v2 p) (hf : IsInts W vf f) : Calls Try.prog 11 #[.agg #[v0, v1, v2], vf, .int .i64 piece] x.w (Ends W (.bool true)) := by
  go_enter Try.func11, Try.ntmps11
  go_upto_region 1 with (fail)
  obtain ⟨W1, x1, e1, hb1, s1, p0, p1, p2⟩ := enter3 x v0 v1 v2 26
  rw [e1]; clear e1
  have HP := Lib.hid (hp.below hb1)
  have HF := Lib.hid (hf.below hb1)
  obtain ⟨ap, cp, rfl, lp, _⟩ := hp.panes.opened
  obtain ⟨ao, co, rfl, lo, _⟩ := hp.opts.opened
  obtain ⟨ar, cr, rfl, lr, _⟩ := hp.rules.opened
  obtain ⟨af, cf, rfl, lf, _⟩ := hf.opened
  clear hp hf
  go_upto_region 2 with (go_at_call 14; refine (lawake x1).mono ?_; rintro e w' ⟨rfl, x1, rfl⟩)
  go_wp2_with (fail)
  refine (llight x1 _ _ _ p HP.out).mono ?_
  rintro e w' ⟨bs, rfl, x1, rfl⟩
  cases bs
  · go_wp2
    go_ret; exact ⟨rfl, x1.down hb1⟩
  by_cases g1 : 200 < f.length
  · go_wp2
    go_ret; exact ⟨rfl, x1.down hb1⟩
  have hB := hb1
  go_upto_region 5 with (go_at_call 30; refine (pFirst x1 _ _ _ p HP.out).mono ?_; rintro e w' ⟨u, rfl, y1, rfl, hI⟩; have I1 := Lib.hid hI; obtain ⟨a1, c1, rfl, hx1, hx2⟩ := hI; clear hx1 hx2)
  replace HP := Lib.hid (HP.out.below y1.h)
  replace HF := Lib.hid (HF.out.below y1.h)
  replace p0 := Later.cells y1.h p0
  replace p1 := Later.cells y1.h p1
  replace p2 := Later.cells y1.h p2
  replace hB := below_then hB y1
  show Code.wp _ _ _ _ (Later.now y1.w).w
  generalize Later.now y1.w = xb
  go_upto_region 6 with (go_at_call 52; refine (rFirst xb _ _ _ p HP.out).mono ?_; rintro e w' ⟨u, rfl, y2, rfl, hI⟩; have I2 := Lib.hid hI; obtain ⟨a2, c2, rfl, hx1, hx2⟩ := hI; clear hx1 hx2)
  replace HP := Lib.hid (HP.out.below y2.h)
  replace HF := Lib.hid (HF.out.below y2.h)
  replace p0 := Later.cells y2.h p0
  replace p1 := Later.cells y2.h p1
  replace p2 := Later.cells y2.h p2
  replace I1 := Lib.hid (I1.out.below y2.h)
  replace hB := below_then hB y2
  show Code.wp _ _ _ _ (Later.now y2.w).w
  generalize Later.now y2.w = xb
  go_upto_region 7 with (go_at_call 48; refine (pNext xb _ _ _ _ p f HP.out HF.out).mono ?_; rintro e w' ⟨u, rfl, y3, rfl, hI⟩; have I3 := Lib.hid hI; obtain ⟨a3, c3, rfl, hx1, hx2⟩ := hI; clear hx1 hx2)
  replace HP := Lib.hid (HP.out.below y3.h)
  replace HF := Lib.hid (HF.out.below y3.h)
  replace p0 := Later.cells y3.h p0
  replace p1 := Later.cells y3.h p1
  replace p2 := Later.cells y3.h p2
  replace I1 := Lib.hid (I1.out.below y3.h)
  replace I2 := Lib.hid (I2.out.below y3.h)
  replace hB := below_then hB y3
  show Code.wp _ _ _ _ (Later.now y3.w).w
  generalize Later.now y3.w = xb
  go_upto_region 8 with (go_at_call 53; refine (rNext xb _ _ _ _ p f HP.out HF.out).mono ?_; rintro e w' ⟨u, rfl, y4, rfl, hI⟩; have I4 := Lib.hid hI; obtain ⟨a4, c4, rfl, hx1, hx2⟩ := hI; clear hx1 hx2)
  replace HP := Lib.hid (HP.out.below y4.h)
  replace HF := Lib.hid (HF.out.below y4.h)
  replace p0 := Later.cells y4.h p0
  replace p1 := Later.cells y4.h p1
  replace p2 := Later.cells y4.h p2
  replace I1 := Lib.hid (I1.out.below y4.h)
  replace I2 := Lib.hid (I2.out.below y4.h)
  replace I3 := Lib.hid (I3.out.below y4.h)
  replace hB := below_then hB y4
  show Code.wp _ _ _ _ (Later.now y4.w).w
  generalize Later.now y4.w = xb
  have hS1 : Hid (∀ y : Later y4.w, Calls Try.prog 20 #[.slice a1 (firstL p).length c1, .slice a2 (firstL p).length c2] y.w (Ends y4.w (.bool true))) := Lib.hid (fun y => by have h := rSameInts y _ _ _ _ I1.out I2.out; rw [decide_eq_true rfl] at h; exact h)
  have hS2 : Hid (∀ y : Later y4.w, Calls Try.prog 20 #[.slice a3 (nextL p f).length c3, .slice a4 (nextL p f).length c4] y.w (Ends y4.w (.bool true))) := Lib.hid (fun y => by have h := rSameInts y _ _ _ _ I3.out I4.out; rw [decide_eq_true rfl] at h; exact h)
  go_upto_region 12 with (first | (go_at_call 20; have hx := z1.h; clear hx; refine (hS2.out z1).mono ?_; rintro e w' ⟨rfl, z2, rfl⟩) | (go_at_call 20; refine (hS1.out xb).mono ?_; rintro e w' ⟨rfl, z1, rfl⟩) | (go_at_call 28; refine (pCount z2 _ _ _ p HP.out).mono ?_; rintro e w' ⟨rfl, z3, rfl⟩) | (go_at_call 54; refine (rCount z3 _ _ _ p HP.out).mono ?_; rintro e w' ⟨rfl, z4, rfl⟩))
  clear I1 I2 I3 I4 hS1 hS2
  go_upto_region 13 with (go_at_call 46; refine (pPossible z4 _ _ _ p HP.out).mono ?_; rintro e w' ⟨u, rfl, y5, rfl, hI⟩; have I5 := Lib.hid hI; obtain ⟨a5, c5, rfl, hx1, hx2⟩ := hI; clear hx1 hx2)
  replace HP := Lib.hid (HP.out.below y5.h)
  replace HF := Lib.hid (HF.out.below y5.h)
  replace p0 := Later.cells y5.h p0
  replace p1 := Later.cells y5.h p1
  replace p2 := Later.cells y5.h p2
  replace hB := below_then hB y5
  show Code.wp _ _ _ _ (Later.now y5.w).w
  generalize Later.now y5.w = xb
  go_upto_region 14 with (go_at_call 55; refine (rPossible xb _ _ _ p HP.out).mono ?_; rintro e w' ⟨u, rfl, y6, rfl, hI⟩; have I6 := Lib.hid hI; obtain ⟨a6, c6, rfl, hx1, hx2⟩ := hI; clear hx1 hx2)
  replace HP := Lib.hid (HP.out.below y6.h)
  replace HF := Lib.hid (HF.out.below y6.h)
  replace p0 := Later.cells y6.h p0
  replace p1 := Later.cells y6.h p1
  replace p2 := Later.cells y6.h p2
  replace I5 := Lib.hid (I5.out.below y6.h)
  replace hB := below_then hB y6
  show Code.wp _ _ _ _ (Later.now y6.w).w
  generalize Later.now y6.w = xb
  go_upto_region 15 with (go_at_call 50; refine (pForced xb _ _ _ p HP.out).mono ?_; rintro e w' ⟨u, rfl, y7, rfl, hI⟩; have I7 := Lib.hid hI; obtain ⟨a7, c7, rfl, hx1, hx2⟩ := hI; clear hx1 hx2)
  replace HP := Lib.hid (HP.out.below y7.h)
  replace HF := Lib.hid (HF.out.below y7.h)
  replace p0 := Later.cells y7.h p0
  replace p1 := Later.cells y7.h p1
  replace p2 := Later.cells y7.h p2
  replace I5 := Lib.hid (I5.out.below y7.h)
  replace I6 := Lib.hid (I6.out.below y7.h)
  replace hB := below_then hB y7
  show Code.wp _ _ _ _ (Later.now y7.w).w
  generalize Later.now y7.w = xb
  go_upto_region 16 with (go_at_call 56; refine (rForced xb _ _ _ p HP.out).mono ?_; rintro e w' ⟨u, rfl, y8, rfl, hI⟩; have I8 := Lib.hid hI; obtain ⟨a8, c8, rfl, hx1, hx2⟩ := hI; clear hx1 hx2)
  replace HP := Lib.hid (HP.out.below y8.h)
  replace HF := Lib.hid (HF.out.below y8.h)
  replace p0 := Later.cells y8.h p0
  replace p1 := Later.cells y8.h p1
  replace p2 := Later.cells y8.h p2
  replace I5 := Lib.hid (I5.out.below y8.h)
  replace I6 := Lib.hid (I6.out.below y8.h)
  replace I7 := Lib.hid (I7.out.below y8.h)
  replace hB := below_then hB y8
  show Code.wp _ _ _ _ (Later.now y8.w).w
  generalize Later.now y8.w = xb
  have hS1 : Hid (∀ y : Later y8.w, Calls Try.prog 45 #[.slice a5 (possL p).length c5, .slice a6 (possL p).length c6] y.w (Ends y8.w (.bool true))) := Lib.hid (fun y => by have h := rSameTables y _ _ _ _ I5.out I6.out; rw [decide_eq_true rfl] at h; exact h)
  have hS2 : Hid (∀ y : Later y8.w, Calls Try.prog 20 #[.slice a7 (forcedR p).length c7, .slice a8 (forcedR p).length c8] y.w (Ends y8.w (.bool true))) := Lib.hid (fun y => by have h := rSameInts y _ _ _ _ I7.out I8.out; rw [decide_eq_true rfl] at h; exact h)
  go_upto_region 18 with (first | (go_at_call 45; refine (hS1.out xb).mono ?_; rintro e w' ⟨rfl, z5, rfl⟩) | (go_at_call 20; refine (hS2.out z5).mono ?_; rintro e w' ⟨rfl, z6, rfl⟩))
  clear I5 I6 I7 I8 hS1 hS2
  go_upto_region 19 with (go_at_call 47; refine (pWhere z6 _ _ _ p piece HP.out).mono ?_; rintro e w' ⟨u, rfl, y9, rfl, hI⟩; have I9 := Lib.hid hI; obtain ⟨a9, c9, rfl, hx1, hx2⟩ := hI; clear hx1 hx2)
  replace HP := Lib.hid (HP.out.below y9.h)
  replace HF := Lib.hid (HF.out.below y9.h)
  replace p0 := Later.cells y9.h p0
  replace p1 := Later.cells y9.h p1
  replace p2 := Later.cells y9.h p2
  replace hB := below_then hB y9
  show Code.wp _ _ _ _ (Later.now y9.w).w
  generalize Later.now y9.w = xb
  go_upto_region 20 with (go_at_call 57; refine (rWhere xb _ _ _ p piece HP.out).mono ?_; rintro e w' ⟨u, rfl, y10, rfl, hI⟩; have I10 := Lib.hid hI; obtain ⟨a10, c10, rfl, hx1, hx2⟩ := hI; clear hx1 hx2)
  replace HP := Lib.hid (HP.out.below y10.h)
  replace HF := Lib.hid (HF.out.below y10.h)
  replace p0 := Later.cells y10.h p0
  replace p1 := Later.cells y10.h p1
  replace p2 := Later.cells y10.h p2
  replace I9 := Lib.hid (I9.out.below y10.h)
  replace hB := below_then hB y10
  show Code.wp _ _ _ _ (Later.now y10.w).w
  generalize Later.now y10.w = xb
  have hS1 : Hid (∀ y : Later y10.w, Calls Try.prog 20 #[.slice a9 (whereL p piece).length c9, .slice a10 (whereL p piece).length c10] y.w (Ends y10.w (.bool true))) := Lib.hid (fun y => by have h := rSameInts y _ _ _ _ I9.out I10.out; rw [decide_eq_true rfl] at h; exact h)
  go_wp2_with (go_at_call 20; refine (hS1.out xb).mono ?_; rintro e w' ⟨rfl, z7, rfl⟩)
  go_ret; exact ⟨rfl, ⟨z7.w, below_then hB z7⟩, rfl⟩
end Go.Proofs.Ytmpkbolabdmkkaa
