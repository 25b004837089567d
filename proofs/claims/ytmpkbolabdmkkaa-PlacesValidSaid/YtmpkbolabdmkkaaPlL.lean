/- CONTRACT of places' Breaks. -/
import Derived.Test.YtmpkbolabdmkkaaPlH
import Derived.Test.YtmpkbolabdmkkaaPlI
import Derived.Test.YtmpkbolabdmkkaaRefH
namespace Go.Proofs.Ytmpkbolabdmkkaa
open Go.RowKit

set_option maxRecDepth 100000 in
set_option maxHeartbeats 1000000 in
theorem pBreaks {W : World} (x : Later W) (v0 v1 v2 vf : Value) (p : Prob) (f : List Int) (hp : IsProb W v0 v1 v2 p) (hf : IsInts W vf f) :
    Calls Try.prog 37 #[.agg #[v0, v1, v2], vf] x.w (EndsIntsE W (brkL p f) (wrongC p f)) := by
  go_enter Try.func37, Try.ntmps37
  go_upto_region 1 with (fail)
  obtain ⟨W1, x1, e1, hb1, s1, p0, p1, p2⟩ := enter3 x v0 v1 v2 26
  rw [e1]; clear e1
  have HP := Lib.hid (hp.below hb1)
  have HF := Lib.hid (hf.below hb1)
  obtain ⟨ap, cp, rfl, lp, _⟩ := hp.panes.opened
  obtain ⟨ao, co, rfl, lo, _⟩ := hp.opts.opened
  obtain ⟨ar, cr, rfl, lr, hr⟩ := HP.out.rules.opened
  clear hp hf
  by_cases h0 : wrongC p f = 0
  · have hw : (wrongC p f != 0) = false := by simp [h0]
    have hv := Lib.hid (wrongC_iff.1 h0)
    have hres : Hid (brkL p f = breaksL p f ∧ wrongC p f = 0) := Lib.hid (by simp [brkL, h0])
    have hfit := Lib.hid (fun i (hi : i < p.rules.length) => fits_of hv.out.1 hv.out.2 hi)
    clear h0
    go_wp2_with (go_at_call 90; refine (pwrong x1 _ _ _ _ p f HP.out HF.out).mono ?_; rintro e w' ⟨rfl, x1, rfl⟩)
    go_loopw [7, 19] (fun v i wr => ∃ k : Nat, k ≤ p.rules.length ∧ i = .int .i64 k ∧ (∃ y : Later W1, wr = y.w ∧ y.w.ownsRow W1.heap.size 3 1 v (breaksTo p f k).length ((breaksTo p f k).map (Value.int .i64)))) (fun _ i _ => p.rules.length - (intOf i).toNat)
    case atStart => exact ⟨0, Nat.zero_le _, rfl, ⟨x1, rfl, World.ownsRow_nil _ _ _ _⟩⟩
    case round =>
      obtain ⟨k, hk, rfl, ⟨x, rfl, hown⟩⟩ := hrel
      have hle := breaksTo_len p f k
      by_cases hlt : k < p.rules.length
      · obtain ⟨b, o, rfl, hb, u2, u3, u6, c0, c1, c2, c3, c4, c5, c6, hR⟩ := hr.out k hlt
        have HR := Lib.hid hR
        obtain ⟨aq, cq, rfl, _, _⟩ := hR.panes.opened
        obtain ⟨ah, ch, rfl, _, _⟩ := hR.hits.opened
        obtain ⟨ak, ck, rfl, _, _⟩ := hR.ok.opened
        clear hR
        go_upto_region 8 with (fail)
        replace hown := owns_later hown (below_alloc1 x.w (.cells #[.int .i64 (nth p.rules k).item, .int .i64 (nth p.rules k).kind, .slice aq (nth p.rules k).panes.length cq, .slice ah (nth p.rules k).hits.length ch, .int .i64 (nth p.rules k).lo, .int .i64 (nth p.rules k).hi, .slice ak (nth p.rules k).ok.length ck] 87))
        obtain ⟨W2, x2, e2, hb2, s2, q0, q1, q2, q3, q4, q5, q6⟩ := enter7 x (.int .i64 (nth p.rules k).item) (.int .i64 (nth p.rules k).kind) (.slice aq (nth p.rules k).panes.length cq) (.slice ah (nth p.rules k).hits.length ch) (.int .i64 (nth p.rules k).lo) (.int .i64 (nth p.rules k).hi) (.slice ak (nth p.rules k).ok.length ck) 87
        rw [e2] at hown ⊢; clear e2 c0 c1 c2 c3 c4 c5 c6 p0 p1 p2
        have hC := Lib.hid (pkeeps (Later.now x2.w) _ _ _ _ p (nth p.rules k) f ((HR.out.below hb2).below x2.h) ((HF.out.below hb2).below x2.h) (hfit.out k hlt))
        cases hA : keepsB (nth p.rules k) f
        · have HS := Lib.hid (breaksTo_yes hA)
          go_wp2_with (first | (go_at_call 97; refine (calls_on x2 hC.out).mono ?_; rintro e w' ⟨rfl, y, rfl, hy⟩; replace hown := owns_later hown hy; clear hy; obtain ⟨y, hz⟩ := y.down hb2; rw [hz] at hown ⊢; clear hz) | (at_builtin; refine wpList_app1 y 22 3 _ 8 Try.info3 rfl Try.underlying22 rfl _ _ rfl _ _ _ (by rfl) hown _ (by rfl) (by rfl) (by omega) (by omega) ?_; intro v' x hown' hgr))
          go_roundw
          case rel => exact ⟨k + 1, by omega, by go_num, ⟨x, rfl, owns_step hown' HS.out⟩⟩
          case measure => simp [intOf]; omega
        · have HS := Lib.hid (breaksTo_no hA)
          go_wp2_with (go_at_call 97; refine (calls_on x2 hC.out).mono ?_; rintro e w' ⟨rfl, y, rfl, hy⟩; replace hown := owns_later hown hy; clear hy; obtain ⟨y, hz⟩ := y.down hb2; rw [hz] at hown ⊢; clear hz)
          go_roundw
          case rel => exact ⟨k + 1, by omega, by go_num, ⟨y, rfl, by rw [HS.out]; exact hown⟩⟩
          case measure => simp [intOf]; omega
      · obtain rfl : k = p.rules.length := by omega
        go_wp2
        go_ret2
        obtain ⟨z, hz⟩ := x.down hb1
        have hI := isInts_of_owns hown (by omega)
        rw [hz] at hI
        exact ⟨_, by rw [hres.out.2]; rfl, z, hz, by rw [hres.out.1]; exact hI⟩
  · have hw : (wrongC p f != 0) = true := by simp [h0]
    have hres : Hid (brkL p f = []) := Lib.hid (by simp [brkL, h0])
    clear h0
    go_wp2_with (go_at_call 90; refine (pwrong x1 _ _ _ _ p f HP.out HF.out).mono ?_; rintro e w' ⟨rfl, x1, rfl⟩)
    go_ret2
    obtain ⟨z, hz⟩ := x1.down hb1
    exact ⟨_, rfl, z, hz, hz ▸ (hres.out ▸ isInts_of_owns (l := []) (World.ownsRow_nil _ W1.heap.size 3 1) (by simp))⟩
end Go.Proofs.Ytmpkbolabdmkkaa
