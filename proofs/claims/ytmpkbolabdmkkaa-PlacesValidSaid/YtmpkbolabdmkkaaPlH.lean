/- CONTRACTS of places' Space, wrong, Sound. -/
import Derived.Test.YtmpkbolabdmkkaaPlF
import Derived.Test.YtmpkbolabdmkkaaPlG
namespace Go.Proofs.Ytmpkbolabdmkkaa
open Go.RowKit

theorem pspace50 {W : World} (x : Later W) (v0 v1 v2 : Value) (p : Prob) (hp : IsProb W v0 v1 v2 p) (h300 : ∀ i, i < p.opts.length → (nth p.opts i).length ≤ 300) :
    Calls Try.prog 89 #[.agg #[v0, v1, v2], .int .i64 1125899906842624] x.w (Ends W (.int .i64 (rspace p))) := by
  have h := pspace x v0 v1 v2 p 1125899906842624 hp (by decide) (by decide) h300
  rw [lspace_r] at h; exact h

set_option maxRecDepth 100000 in
set_option maxHeartbeats 1000000 in
theorem pSpace {W : World} (x : Later W) (v0 v1 v2 : Value) (p : Prob) (hp : IsProb W v0 v1 v2 p) :
    Calls Try.prog 32 #[.agg #[v0, v1, v2]] x.w (Ends W (.tuple #[.int .i64 (spaceV p), .int .i64 (spaceE p)])) := by
  go_enter Try.func32, Try.ntmps32
  go_upto_region 1 with (fail)
  obtain ⟨W1, x1, e1, hb1, s1, p0, p1, p2⟩ := enter3 x v0 v1 v2 26
  rw [e1]; clear e1
  have HP := Lib.hid (hp.below hb1)
  obtain ⟨ap, cp, rfl, lp, _⟩ := hp.panes.opened
  obtain ⟨ao, co, rfl, lo, _⟩ := hp.opts.opened
  obtain ⟨ar, cr, rfl, lr, _⟩ := hp.rules.opened
  clear hp
  cases hv : validP p
  · go_wp2_with (go_at_call 36; refine (pValid x1 _ _ _ p HP.out).mono ?_; rintro e w' ⟨rfl, x1, rfl⟩)
    go_ret2; exact ⟨by simp [spaceV, spaceE, hv], x1.down hb1⟩
  · have h300 := Lib.hid (fun i (hi : i < p.opts.length) => Nat.le_trans (valid_opts hv hi).2 (show 256 ≤ 300 by decide))
    cases hA : decide (1125899906842624 < rspace p)
    · go_wp2_with (first | (go_at_call 36; refine (pValid x1 _ _ _ p HP.out).mono ?_; rintro e w' ⟨rfl, x1, rfl⟩) | (go_at_call 89; refine (pspace50 x1 _ _ _ p HP.out h300.out).mono ?_; rintro e w' ⟨rfl, x1, rfl⟩))
      go_ret2; exact ⟨by simp at hA; simp [spaceV, spaceE, hv]; omega, x1.down hb1⟩
    · go_wp2_with (first | (go_at_call 36; refine (pValid x1 _ _ _ p HP.out).mono ?_; rintro e w' ⟨rfl, x1, rfl⟩) | (go_at_call 89; refine (pspace50 x1 _ _ _ p HP.out h300.out).mono ?_; rintro e w' ⟨rfl, x1, rfl⟩))
      go_ret2; exact ⟨by simp at hA; simp [spaceV, spaceE, hv]; omega, x1.down hb1⟩

set_option maxRecDepth 100000 in
set_option maxHeartbeats 1000000 in
theorem pwrong {W : World} (x : Later W) (v0 v1 v2 vf : Value) (p : Prob) (f : List Int) (hp : IsProb W v0 v1 v2 p) (hf : IsInts W vf f) :
    Calls Try.prog 90 #[.agg #[v0, v1, v2], vf] x.w (Ends W (.int .i64 (wrongC p f))) := by
  go_enter Try.func90, Try.ntmps90
  go_upto_region 1 with (fail)
  obtain ⟨W1, x1, e1, hb1, s1, p0, p1, p2⟩ := enter3 x v0 v1 v2 26
  rw [e1]; clear e1
  have HP := Lib.hid (hp.below hb1)
  have HF := Lib.hid (hf.below hb1)
  obtain ⟨ap, cp, rfl, lp, _⟩ := hp.panes.opened
  obtain ⟨ao, co, rfl, lo, _⟩ := hp.opts.opened
  obtain ⟨ar, cr, rfl, lr, _⟩ := hp.rules.opened
  clear hp
  cases hv : validP p
  · go_wp2_with (go_at_call 36; refine (pValid x1 _ _ _ p HP.out).mono ?_; rintro e w' ⟨rfl, x1, rfl⟩)
    go_ret; exact ⟨ret_int (wrongC_70 hv).symm, x1.down hb1⟩
  · have hlen := Lib.hid (valid_len hv)
    cases hfl : fillB p f
    · go_wp2_with (first | (go_at_call 36; refine (pValid x1 _ _ _ p HP.out).mono ?_; rintro e w' ⟨rfl, x1, rfl⟩) | (go_at_call 135; refine (pfilling x1 _ _ _ _ p f HP.out HF.out hlen.out).mono ?_; rintro e w' ⟨rfl, x1, rfl⟩))
      go_ret; exact ⟨ret_int (wrongC_71 hv hfl).symm, x1.down hb1⟩
    · go_wp2_with (first | (go_at_call 36; refine (pValid x1 _ _ _ p HP.out).mono ?_; rintro e w' ⟨rfl, x1, rfl⟩) | (go_at_call 135; refine (pfilling x1 _ _ _ _ p f HP.out HF.out hlen.out).mono ?_; rintro e w' ⟨rfl, x1, rfl⟩))
      go_ret; exact ⟨ret_int (wrongC_0 hv hfl).symm, x1.down hb1⟩

set_option maxRecDepth 100000 in
set_option maxHeartbeats 1000000 in
theorem pSound {W : World} (x : Later W) (v0 v1 v2 vf : Value) (p : Prob) (f : List Int) (hp : IsProb W v0 v1 v2 p) (hf : IsInts W vf f) :
    Calls Try.prog 34 #[.agg #[v0, v1, v2], vf] x.w (Ends W (.tuple #[.bool (sndB p f), .int .i64 (wrongC p f)])) := by
  go_enter Try.func34, Try.ntmps34
  go_upto_region 1 with (fail)
  obtain ⟨W1, x1, e1, hb1, s1, p0, p1, p2⟩ := enter3 x v0 v1 v2 26
  rw [e1]; clear e1
  have HP := Lib.hid (hp.below hb1)
  have HF := Lib.hid (hf.below hb1)
  obtain ⟨ap, cp, rfl, lp, _⟩ := hp.panes.opened
  obtain ⟨ao, co, rfl, lo, _⟩ := hp.opts.opened
  obtain ⟨ar, cr, rfl, lr, _⟩ := hp.rules.opened
  clear hp
  by_cases h0 : wrongC p f = 0
  · have hw : (wrongC p f != 0) = false := by simp [h0]
    obtain ⟨hv, hfl⟩ := wrongC_iff.1 h0
    have hlen : Hid (f.length = p.opts.length) := Lib.hid (by rw [(fillB_iff.1 hfl).1, valid_len hv])
    have hfill := Lib.hid (fun i (hi : i < f.length) => fill_at hfl hi)
    have hr : Hid (sndB p f = soundB p f) := Lib.hid (by simp [sndB, h0])
    replace h0 := Lib.hid h0
    clear hv hfl
    go_wp2_with (first | (go_at_call 90; refine (pwrong x1 _ _ _ _ p f HP.out HF.out).mono ?_; rintro e w' ⟨rfl, x1, rfl⟩) | (go_at_call 91; refine (psound x1 _ _ _ _ p f HP.out HF.out hlen.out hfill.out).mono ?_; rintro e w' ⟨rfl, x1, rfl⟩))
    go_ret2; exact ⟨by rw [hr.out, h0.out]; rfl, x1.down hb1⟩
  · have hw : (wrongC p f != 0) = true := by simp [h0]
    have hr : Hid (sndB p f = false) := Lib.hid (by simp [sndB, h0])
    clear h0
    go_wp2_with (go_at_call 90; refine (pwrong x1 _ _ _ _ p f HP.out HF.out).mono ?_; rintro e w' ⟨rfl, x1, rfl⟩)
    go_ret2; exact ⟨by rw [hr.out]; rfl, x1.down hb1⟩

end Go.Proofs.Ytmpkbolabdmkkaa
