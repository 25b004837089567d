/- CONTRACTS of the reference's Space, checked, Sound, agrees, Agrees, large, there. -/
import Derived.Test.YtmpkbolabdmkkaaRefE
import Derived.Test.YtmpkbolabdmkkaaRefF
import Derived.Test.YtmpkbolabdmkkaaKeepsR
namespace Go.Proofs.Ytmpkbolabdmkkaa
open Go.RowKit

set_option maxRecDepth 100000 in
set_option maxHeartbeats 1000000 in
theorem rSpace {W : World} (x : Later W) (v0 v1 v2 : Value) (p : Prob) (hp : IsProb W v0 v1 v2 p) :
    Calls Try.prog 33 #[.agg #[v0, v1, v2]] x.w (Ends W (.tuple #[.int .i64 (spaceV p), .int .i64 (spaceE p)])) := by
  go_enter Try.func33, Try.ntmps33
  go_upto_region 1 with (fail)
  obtain ⟨W1, x1, e1, hb1, s1, p0, p1, p2⟩ := enter3 x v0 v1 v2 26
  rw [e1]; clear e1
  have HP := Lib.hid (hp.below hb1)
  obtain ⟨ap, cp, rfl, lp, _⟩ := hp.panes.opened
  obtain ⟨ao, co, rfl, lo, _⟩ := hp.opts.opened
  obtain ⟨ar, cr, rfl, lr, _⟩ := hp.rules.opened
  clear hp
  cases hv : validP p
  · go_wp2_with (go_at_call 27; refine (rValid x1 _ _ _ p HP.out).mono ?_; rintro e w' ⟨rfl, x1, rfl⟩)
    go_ret2; exact ⟨by simp [spaceV, spaceE, hv], x1.down hb1⟩
  · have h300 := Lib.hid (fun i (hi : i < p.opts.length) => Nat.le_trans (valid_opts hv hi).2 (show 256 ≤ 300 by decide))
    cases hA : decide (1125899906842624 < rspace p)
    · go_wp2_with (first | (go_at_call 27; refine (rValid x1 _ _ _ p HP.out).mono ?_; rintro e w' ⟨rfl, x1, rfl⟩) | (go_at_call 70; refine (rspace_walk x1 _ _ _ p HP.out h300.out).mono ?_; rintro e w' ⟨rfl, x1, rfl⟩))
      go_ret2; exact ⟨by simp at hA; simp [spaceV, spaceE, hv]; omega, x1.down hb1⟩
    · go_wp2_with (first | (go_at_call 27; refine (rValid x1 _ _ _ p HP.out).mono ?_; rintro e w' ⟨rfl, x1, rfl⟩) | (go_at_call 70; refine (rspace_walk x1 _ _ _ p HP.out h300.out).mono ?_; rintro e w' ⟨rfl, x1, rfl⟩))
      go_ret2; exact ⟨by simp at hA; simp [spaceV, spaceE, hv]; omega, x1.down hb1⟩

set_option maxRecDepth 100000 in
set_option maxHeartbeats 1000000 in
theorem rchecked {W : World} (x : Later W) (v0 v1 v2 vf : Value) (p : Prob) (f : List Int) (hp : IsProb W v0 v1 v2 p) (hf : IsInts W vf f) :
    Calls Try.prog 92 #[.agg #[v0, v1, v2], vf] x.w (Ends W (.int .i64 (wrongC p f))) := by
  go_enter Try.func92, Try.ntmps92
  go_upto_region 1 with (fail)
  obtain ⟨W1, x1, e1, hb1, s1, p0, p1, p2⟩ := enter3 x v0 v1 v2 26
  rw [e1]; clear e1
  have HP := Lib.hid (hp.below hb1)
  have HF := Lib.hid (hf.below hb1)
  obtain ⟨ap, cp, rfl, lp, _⟩ := hp.panes.opened
  obtain ⟨ao, co, rfl, lo, _⟩ := hp.opts.opened
  obtain ⟨ar, cr, rfl, lr, _⟩ := hp.rules.opened
  clear hp
  cases hv : validP p
  · go_wp2_with (go_at_call 27; refine (rValid x1 _ _ _ p HP.out).mono ?_; rintro e w' ⟨rfl, x1, rfl⟩)
    go_ret; exact ⟨ret_int (wrongC_70 hv).symm, x1.down hb1⟩
  · have hlen := Lib.hid (valid_len hv)
    cases hfl : fillB p f
    · go_wp2_with (first | (go_at_call 27; refine (rValid x1 _ _ _ p HP.out).mono ?_; rintro e w' ⟨rfl, x1, rfl⟩) | (go_at_call 136; refine (rfilling x1 _ _ _ _ p f HP.out HF.out hlen.out).mono ?_; rintro e w' ⟨rfl, x1, rfl⟩))
      go_ret; exact ⟨ret_int (wrongC_71 hv hfl).symm, x1.down hb1⟩
    · go_wp2_with (first | (go_at_call 27; refine (rValid x1 _ _ _ p HP.out).mono ?_; rintro e w' ⟨rfl, x1, rfl⟩) | (go_at_call 136; refine (rfilling x1 _ _ _ _ p f HP.out HF.out hlen.out).mono ?_; rintro e w' ⟨rfl, x1, rfl⟩))
      go_ret; exact ⟨ret_int (wrongC_0 hv hfl).symm, x1.down hb1⟩

set_option maxRecDepth 100000 in
set_option maxHeartbeats 1000000 in
theorem rSound {W : World} (x : Later W) (v0 v1 v2 vf : Value) (p : Prob) (f : List Int) (hp : IsProb W v0 v1 v2 p) (hf : IsInts W vf f) :
    Calls Try.prog 35 #[.agg #[v0, v1, v2], vf] x.w (Ends W (.tuple #[.bool (sndB p f), .int .i64 (wrongC p f)])) := by
  go_enter Try.func35, Try.ntmps35
  go_upto_region 1 with (fail)
  obtain ⟨W1, x1, e1, hb1, s1, p0, p1, p2⟩ := enter3 x v0 v1 v2 26
  rw [e1]; clear e1
  have HP := Lib.hid (hp.below hb1)
  have HF := Lib.hid (hf.below hb1)
  obtain ⟨ap, cp, rfl, lp, _⟩ := hp.panes.opened
  obtain ⟨ao, co, rfl, lo, _⟩ := hp.opts.opened
  obtain ⟨ar, cr, rfl, lr, _⟩ := hp.rules.opened
  clear hp
  by_cases h0 : wrongC p f = 0
  · have hw : (wrongC p f == 0) = true := by simp [h0]
    obtain ⟨hv, hfl⟩ := wrongC_iff.1 h0
    have hlen : Hid (f.length = p.opts.length) := Lib.hid (by rw [(fillB_iff.1 hfl).1, valid_len hv])
    have hfill := Lib.hid (fun i (hi : i < f.length) => fill_at hfl hi)
    have hr : Hid (sndB p f = soundB p f) := Lib.hid (by simp [sndB, h0])
    replace h0 := Lib.hid h0
    clear hv hfl
    go_wp2_with (first | (go_at_call 92; refine (rchecked x1 _ _ _ _ p f HP.out HF.out).mono ?_; rintro e w' ⟨rfl, x1, rfl⟩) | (go_at_call 93; refine (rsound x1 _ _ _ _ p f HP.out HF.out hlen.out hfill.out).mono ?_; rintro e w' ⟨rfl, x1, rfl⟩))
    go_ret2; exact ⟨by rw [hr.out]; rfl, x1.down hb1⟩
  · have hw : (wrongC p f == 0) = false := by simp [h0]
    have hr : Hid (sndB p f = false) := Lib.hid (by simp [sndB, h0])
    clear h0
    go_wp2_with (go_at_call 92; refine (rchecked x1 _ _ _ _ p f HP.out HF.out).mono ?_; rintro e w' ⟨rfl, x1, rfl⟩)
    go_ret2; exact ⟨by rw [hr.out]; rfl, x1.down hb1⟩

set_option maxRecDepth 100000 in
set_option maxHeartbeats 1000000 in
theorem ragrees {W : World} (x : Later W) (v0 v1 v2 vf : Value) (p : Prob) (f : List Int) (hp : IsProb W v0 v1 v2 p) (hf : IsInts W vf f) (hv : validP p = true) (hfl : fillB p f = true) :
    Calls Try.prog 102 #[.agg #[v0, v1, v2], vf] x.w (Ends W (.bool (agreesB p f))) := by
  have hlen : Hid (f.length = p.opts.length) := Lib.hid (by rw [(fillB_iff.1 hfl).1, valid_len hv])
  have hfill := Lib.hid (fun i (hi : i < f.length) => fill_at hfl hi)
  have hfit := Lib.hid (fun i (hi : i < p.rules.length) => fits_of hv hfl hi)
  have hbad := Lib.hid (fun i => @agreesB_bad p f i)
  have hrest := Lib.hid (@agreesB_rest p f)
  clear hv hfl
  go_enter Try.func102, Try.ntmps102
  go_upto_region 1 with (fail)
  obtain ⟨W1, x1, e1, hb1, s1, p0, p1, p2⟩ := enter3 x v0 v1 v2 26
  rw [e1]; clear e1
  have HP := Lib.hid (hp.below hb1)
  have HF := Lib.hid (hf.below hb1)
  obtain ⟨ap, cp, rfl, lp, _⟩ := hp.panes.opened
  obtain ⟨ao, co, rfl, lo, _⟩ := hp.opts.opened
  obtain ⟨ar, cr, rfl, lr, hr⟩ := HP.out.rules.opened
  clear hp hf
  go_wp2
  go_loopw [5] (fun i wr => ∃ k : Nat, k ≤ p.rules.length ∧ i = .int .i64 k ∧ (∃ y : Later W1, wr = y.w) ∧ (∀ i, i < k → keepsB (nth p.rules i) f = true)) (fun i _ => p.rules.length - (intOf i).toNat)
  case atStart => exact ⟨0, Nat.zero_le _, rfl, ⟨x1, rfl⟩, by omega⟩
  case round =>
    obtain ⟨k, hk, rfl, ⟨x, rfl⟩, hin⟩ := hrel
    replace hin := Lib.hid hin
    by_cases hlt : k < p.rules.length
    · obtain ⟨b, o, rfl, hb, u2, u3, u6, c0, c1, c2, c3, c4, c5, c6, hR⟩ := hr.out k hlt
      have HR := Lib.hid hR
      obtain ⟨aq, cq, rfl, _, _⟩ := hR.panes.opened
      obtain ⟨ah, ch, rfl, _, _⟩ := hR.hits.opened
      obtain ⟨ak, ck, rfl, _, _⟩ := hR.ok.opened
      clear hR
      cases hA : keepsB (nth p.rules k) f
      · go_wp2_with (go_at_call 98; refine (rkeeps x _ _ _ _ p (nth p.rules k) f HR.out HF.out (hfit.out k hlt)).mono ?_; rintro e w' ⟨rfl, x, rfl⟩)
        go_ret; exact ⟨ret_bool (hbad.out k hlt hA).symm, x.down hb1⟩
      · go_wp2_with (go_at_call 98; refine (rkeeps x _ _ _ _ p (nth p.rules k) f HR.out HF.out (hfit.out k hlt)).mono ?_; rintro e w' ⟨rfl, x, rfl⟩)
        go_roundw
        case rel => exact ⟨k + 1, by omega, by go_num, ⟨x, rfl⟩, all_step hin.out hA⟩
        case measure => simp [intOf]; omega
    · obtain rfl : k = p.rules.length := by omega
      go_wp2_with (go_at_call 93; refine (rsound x _ _ _ _ p f HP.out HF.out hlen.out hfill.out).mono ?_; rintro e w' ⟨rfl, x, rfl⟩)
      go_ret; exact ⟨ret_bool (hrest.out hin.out).symm, x.down hb1⟩

set_option maxRecDepth 100000 in
set_option maxHeartbeats 1000000 in
theorem rAgrees {W : World} (x : Later W) (v0 v1 v2 vf : Value) (p : Prob) (f : List Int) (hp : IsProb W v0 v1 v2 p) (hf : IsInts W vf f) :
    Calls Try.prog 42 #[.agg #[v0, v1, v2], vf] x.w (Ends W (.tuple #[.bool (agrB p f), .int .i64 (wrongC p f)])) := by
  go_enter Try.func42, Try.ntmps42
  go_upto_region 1 with (fail)
  obtain ⟨W1, x1, e1, hb1, s1, p0, p1, p2⟩ := enter3 x v0 v1 v2 26
  rw [e1]; clear e1
  have HP := Lib.hid (hp.below hb1)
  have HF := Lib.hid (hf.below hb1)
  obtain ⟨ap, cp, rfl, lp, _⟩ := hp.panes.opened
  obtain ⟨ao, co, rfl, lo, _⟩ := hp.opts.opened
  obtain ⟨ar, cr, rfl, lr, _⟩ := hp.rules.opened
  clear hp
  by_cases h0 : wrongC p f = 0
  · have hw : (wrongC p f == 0) = true := by simp [h0]
    have hv := Lib.hid (wrongC_iff.1 h0)
    have hr : Hid (agrB p f = agreesB p f) := Lib.hid (by simp [agrB, h0])
    clear h0
    go_wp2_with (first | (go_at_call 92; refine (rchecked x1 _ _ _ _ p f HP.out HF.out).mono ?_; rintro e w' ⟨rfl, x1, rfl⟩) | (go_at_call 102; refine (ragrees x1 _ _ _ _ p f HP.out HF.out hv.out.1 hv.out.2).mono ?_; rintro e w' ⟨rfl, x1, rfl⟩))
    go_ret2; exact ⟨by rw [hr.out]; rfl, x1.down hb1⟩
  · have hw : (wrongC p f == 0) = false := by simp [h0]
    have hr : Hid (agrB p f = false) := Lib.hid (by simp [agrB, h0])
    clear h0
    go_wp2_with (go_at_call 92; refine (rchecked x1 _ _ _ _ p f HP.out HF.out).mono ?_; rintro e w' ⟨rfl, x1, rfl⟩)
    go_ret2; exact ⟨by rw [hr.out]; rfl, x1.down hb1⟩
end Go.Proofs.Ytmpkbolabdmkkaa
