/- CONTRACT of places' Agrees. -/
import Derived.Test.YtmpkbolabdmkkaaPlH
import Derived.Test.YtmpkbolabdmkkaaPlJ
namespace Go.Proofs.Ytmpkbolabdmkkaa
open Go.RowKit

set_option maxRecDepth 100000 in
set_option maxHeartbeats 1000000 in
theorem pAgrees {W : World} (x : Later W) (v0 v1 v2 vf : Value) (p : Prob) (f : List Int) (hp : IsProb W v0 v1 v2 p) (hf : IsInts W vf f) :
    Calls Try.prog 41 #[.agg #[v0, v1, v2], vf] x.w (Ends W (.tuple #[.bool (agrB p f), .int .i64 (wrongC p f)])) := by
  go_enter Try.func41, Try.ntmps41
  go_upto_region 1 with (fail)
  obtain ⟨W1, x1, e1, hb1, s1, p0, p1, p2⟩ := enter3 x v0 v1 v2 26
  rw [e1]; clear e1
  have HP := Lib.hid (hp.below hb1)
  have HF := Lib.hid (hf.below hb1)
  obtain ⟨ap, cp, rfl, lp, _⟩ := hp.panes.opened
  obtain ⟨ao, co, rfl, lo, _⟩ := hp.opts.opened
  obtain ⟨ar, cr, rfl, lr, _⟩ := hp.rules.opened
  clear hp
  by_cases h0 : wrongC p f = 0
  · have hw : (wrongC p f != 0) = false := by simp [h0]
    have hv := Lib.hid (wrongC_iff.1 h0)
    have hr : Hid (agrB p f = agreesB p f) := Lib.hid (by simp [agrB, h0])
    replace h0 := Lib.hid h0
    go_wp2_with (first | (go_at_call 90; refine (pwrong x1 _ _ _ _ p f HP.out HF.out).mono ?_; rintro e w' ⟨rfl, x1, rfl⟩) | (go_at_call 101; refine (pagrees x1 _ _ _ _ p f HP.out HF.out hv.out.1 hv.out.2).mono ?_; rintro e w' ⟨rfl, x1, rfl⟩))
    go_ret2; exact ⟨by rw [hr.out, h0.out]; rfl, x1.down hb1⟩
  · have hw : (wrongC p f != 0) = true := by simp [h0]
    have hr : Hid (agrB p f = false) := Lib.hid (by simp [agrB, h0])
    clear h0
    go_wp2_with (go_at_call 90; refine (pwrong x1 _ _ _ _ p f HP.out HF.out).mono ?_; rintro e w' ⟨rfl, x1, rfl⟩)
    go_ret2; exact ⟨by rw [hr.out]; rfl, x1.down hb1⟩
end Go.Proofs.Ytmpkbolabdmkkaa
