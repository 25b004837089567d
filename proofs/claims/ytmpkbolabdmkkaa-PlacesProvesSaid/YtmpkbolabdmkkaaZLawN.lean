/- CONTRACT of the laws' light, with what it says. -/
import Derived.Test.YtmpkbolabdmkkaaZLawD
namespace Go.Proofs.Ytmpkbolabdmkkaa
open Go.RowKit

/-- HOW light ENDS: where it says yes, all fillings can be gone through, or the problem errs -/
def EndsLight (W : World) (p : Prob) (e : Ending) (w' : World) : Prop := ∃ b, e = .returned (.bool b) ∧ (b = true → largeE p = 0 → total p ≤ 300) ∧ ∃ y : Later W, w' = y.w
theorem light_says {p : Prob} (h : spaceE p ≠ 0 ∨ (spaceV p ≤ 300 ∨ 65536 < spaceV p)) (hl : largeE p = 0) : total p ≤ 300 := by
  obtain ⟨hv, ht⟩ := largeE_0.1 hl
  have hr := rspace_total hv
  have hE : spaceE p = 0 := by unfold spaceE; rw [if_pos hv, if_neg (by omega)]
  rcases h with h | h
  · exact absurd hE h
  · have : spaceV p = rspace p := by unfold spaceV; rw [if_pos hE]
    rw [this] at h
    omega

set_option maxRecDepth 100000 in
set_option maxHeartbeats 1000000 in
theorem llightF {W : World} (x : Later W) (v0 v1 v2 : Value) (p : Prob) (hp : IsProb W v0 v1 v2 p) : Calls Try.prog 15 #[.agg #[v0, v1, v2]] x.w (EndsLight W p) := by
  go_enter Try.func15, Try.ntmps15
  go_upto_region 1 with (fail)
  obtain ⟨W1, x1, e1, hb1, s1, p0, p1, p2⟩ := enter3 x v0 v1 v2 26
  rw [e1]; clear e1
  have HP := Lib.hid (hp.below hb1)
  obtain ⟨ap, cp, rfl, lp, _⟩ := hp.panes.opened
  obtain ⟨ao, co, rfl, lo, _⟩ := hp.opts.opened
  obtain ⟨ar, cr, rfl, lr, _⟩ := hp.rules.opened
  clear hp
  have hsay := Lib.hid (@light_says p)
  obtain ⟨sv, hsv⟩ : ∃ sv, sv = spaceV p := ⟨_, rfl⟩
  obtain ⟨se, hse⟩ : ∃ se, se = spaceE p := ⟨_, rfl⟩
  have hC := Lib.hid (fun y : Later W1 => rSpace y _ _ _ p HP.out)
  rw [← hsv, ← hse] at hC hsay
  clear hsv hse
  have hF : Hid (∀ (b : Bool) (y : Later W1), (b = true → largeE p = 0 → total p ≤ 300) → EndsLight W p (.returned (.bool b)) y.w) := Lib.hid (fun b y h => ⟨b, rfl, h, y.down hb1⟩)
  go_upto_region 3 with (go_at_call 31; refine (lshaped x1 _ _ _ p HP.out).mono ?_; rintro e w' ⟨sh, rfl, x1, rfl⟩; rcases Bool.eq_false_or_eq_true sh with hsh | hsh <;> subst hsh)
  rotate_left
  · go_ret
    exact hF.out _ _ (fun h => by cases h)
  by_cases h1 : se = 0 <;> by_cases h2 : sv ≤ 300 <;> by_cases h3 : p.rules.length ≤ 30 <;> by_cases h4 : 65536 < sv
  all_goals first | (exfalso; omega) | skip
  all_goals
    go_wp2_with (go_at_call 33; refine (hC.out x1).mono ?_; rintro e w' ⟨rfl, x1, rfl⟩)
    go_ret
    exact hF.out _ _ (fun h => by first | (exact hsay.out (by omega)) | (simp at h; omega) | cases h)
end Go.Proofs.Ytmpkbolabdmkkaa
