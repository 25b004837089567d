/- CONTRACTS of the laws' shaped and PlacesValid. -/
import Derived.Test.YtmpkbolabdmkkaaZLawB
import Derived.Test.YtmpkbolabdmkkaaZe
import Derived.Test.YtmpkbolabdmkkaaZc
import Derived.Test.YtmpkbolabdmkkaaZd
import Derived.Test.YtmpkbolabdmkkaaZh
namespace Go.Proofs.Ytmpkbolabdmkkaa
open Go.RowKit

/-- HOW A CALL ENDS that hands back one bool or the other -/
def EndsBool (W : World) (e : Ending) (w' : World) : Prop := ∃ b : Bool, e = .returned (.bool b) ∧ ∃ y : Later W, w' = y.w

set_option maxRecDepth 100000 in
set_option maxHeartbeats 1000000 in
theorem lshaped {W : World} (x : Later W) (v0 v1 v2 : Value) (p : Prob) (hp : IsProb W v0 v1 v2 p) : Calls Try.prog 31 #[.agg #[v0, v1, v2]] x.w (EndsBool W) := by
  go_enter Try.func31, Try.ntmps31
  go_upto_region 1 with (fail)
  obtain ⟨W1, x1, e1, hb1, s1, p0, p1, p2⟩ := enter3 x v0 v1 v2 26
  rw [e1]; clear e1
  obtain ⟨ap, cp, rfl, lp, _⟩ := (hp.panes.below hb1).opened
  obtain ⟨ao, co, rfl, lo, hopts⟩ := (hp.opts.below hb1).opened
  obtain ⟨ar, cr, rfl, lr, hr⟩ := (hp.rules.below hb1).opened
  clear hp
  by_cases g1 : 100 < p.panes.length
  · go_wp2
    go_ret; exact ⟨_, rfl, x1.down hb1⟩
  by_cases g2 : 100 < p.opts.length
  · go_wp2
    go_ret; exact ⟨_, rfl, x1.down hb1⟩
  by_cases g3 : 300 < p.rules.length
  · go_wp2
    go_ret; exact ⟨_, rfl, x1.down hb1⟩
  go_wp2
  go_loopw [3] (fun i wr => ∃ k : Nat, k ≤ p.opts.length ∧ i = .int .i64 k ∧ ∃ y : Later W1, wr = y.w) (fun i _ => p.opts.length - (intOf i).toNat)
  case atStart => exact ⟨0, Nat.zero_le _, rfl, x1, rfl⟩
  case round =>
    clear x1
    obtain ⟨k, hk, rfl, x1, rfl⟩ := hrel
    by_cases hlt : k < p.opts.length
    · obtain ⟨bo, oo, rfl, hbo, uo, co0, hO⟩ := hopts.out k hlt
      obtain ⟨av, cv, rfl, lv, _⟩ := hO.opened
      by_cases g4 : 300 < (nth p.opts k).length
      · go_wp2
        go_ret; exact ⟨_, rfl, x1.down hb1⟩
      · go_wp2
        go_roundw
        case rel => exact ⟨k + 1, by omega, by go_num, x1, rfl⟩
        case measure => simp [intOf]; omega
    · obtain rfl : k = p.opts.length := by omega
      go_wp2
      go_loopw [4] (fun i wr => ∃ k : Nat, k ≤ p.rules.length ∧ i = .int .i64 k ∧ ∃ y : Later W1, wr = y.w) (fun i _ => p.rules.length - (intOf i).toNat)
      case atStart => exact ⟨0, Nat.zero_le _, rfl, x1, rfl⟩
      case round =>
        clear x1
        obtain ⟨m, hm, rfl, x1, rfl⟩ := hrel
        by_cases hlt : m < p.rules.length
        · obtain ⟨bk, ok, rfl, hbk, u2, u3, u6, c0, c1, c2, c3, c4, c5, c6, hR⟩ := hr.out m hlt
          obtain ⟨aq, cq, rfl, _, _⟩ := hR.panes.opened
          obtain ⟨ah, ch, rfl, _, _⟩ := hR.hits.opened
          obtain ⟨ak, ck, rfl, _, _⟩ := hR.ok.opened
          clear hR
          by_cases g5 : 100 < (nth p.rules m).panes.length
          · go_wp2
            go_ret; exact ⟨_, rfl, x1.down hb1⟩
          by_cases g6 : 100 < (nth p.rules m).hits.length
          · go_wp2
            go_ret; exact ⟨_, rfl, x1.down hb1⟩
          by_cases g7 : 300 < (nth p.rules m).ok.length
          · go_wp2
            go_ret; exact ⟨_, rfl, x1.down hb1⟩
          go_wp2
          go_roundw
          case rel => exact ⟨m + 1, by omega, by go_num, x1, rfl⟩
          case measure => simp [intOf]; omega
        · obtain rfl : m = p.rules.length := by omega
          go_wp2
          go_ret; exact ⟨_, rfl, x1.down hb1⟩

set_option maxRecDepth 100000 in
set_option maxHeartbeats 2000000 in
theorem lawValid {W : World} (x : Later W) (v0 v1 v2 vf : Value) (p : Prob) (f : List Int) (hp : IsProb W v0 v1 v2 p) (hf : IsInts W vf f) : Calls Try.prog 5 #[.agg #[v0, v1, v2], vf] x.w (Ends W (.bool true)) := by
  go_enter Try.func5, Try.ntmps5
  go_upto_region 1 with (fail)
  obtain ⟨W1, x1, e1, hb1, s1, p0, p1, p2⟩ := enter3 x v0 v1 v2 26
  rw [e1]; clear e1
  have HP := Lib.hid (hp.below hb1)
  have HF := Lib.hid (hf.below hb1)
  obtain ⟨ap, cp, rfl, lp, _⟩ := hp.panes.opened
  obtain ⟨ao, co, rfl, lo, _⟩ := hp.opts.opened
  obtain ⟨ar, cr, rfl, lr, _⟩ := hp.rules.opened
  obtain ⟨af, cf, rfl, lf, _⟩ := hf.opened
  clear hp hf
  go_upto_region 2 with (go_at_call 14; refine (lawake x1).mono ?_; rintro e w' ⟨rfl, x1, rfl⟩)
  go_wp2_with (fail)
  refine (lshaped x1 _ _ _ p HP.out).mono ?_
  rintro e w' ⟨bs, rfl, x1, rfl⟩
  cases bs
  · go_wp2
    go_ret; exact ⟨rfl, x1.down hb1⟩
  by_cases g1 : 200 < f.length
  · go_wp2
    go_ret; exact ⟨rfl, x1.down hb1⟩
  go_upto_region 8 with (first | (go_at_call 32; refine (pSpace x1 _ _ _ p HP.out).mono ?_; rintro e w' ⟨rfl, x1, rfl⟩) | (go_at_call 33; refine (rSpace x1 _ _ _ p HP.out).mono ?_; rintro e w' ⟨rfl, x1, rfl⟩) | (go_at_call 34; refine (pSound x1 _ _ _ _ p f HP.out HF.out).mono ?_; rintro e w' ⟨rfl, x1, rfl⟩) | (go_at_call 35; refine (rSound x1 _ _ _ _ p f HP.out HF.out).mono ?_; rintro e w' ⟨rfl, x1, rfl⟩))
  refine wp_region_later x1 (by kernel_rfl) (by kernel_rfl) ?_
  repeat (go_big_quiet_step ((first | (go_at_call 36; exact pValid _ _ _ _ p HP.out) | (go_at_call 27; exact rValid _ _ _ _ p HP.out))))
  refine wpQuiet_nil ?_
  rintro _ ⟨x1, rfl⟩
  go_upto_region 11 with (go_at_call 37; refine (pBreaks x1 _ _ _ _ p f HP.out HF.out).mono ?_; rintro e w' ⟨u, rfl, x2, rfl, hI1⟩; have I1 := Lib.hid hI1; obtain ⟨a1, c1, rfl, _, _⟩ := hI1)
  have HP2 := Lib.hid (HP.out.below x2.h)
  have HF2 := Lib.hid (HF.out.below x2.h)
  replace p0 := Later.cells x2.h p0
  replace p1 := Later.cells x2.h p1
  replace p2 := Later.cells x2.h p2
  show Code.wp _ _ _ _ (Later.now x2.w).w
  have hB2 : Below W.heap.size W x2.w := below_then hb1 x2
  generalize Later.now x2.w = x3
  go_upto_region 12 with (go_at_call 38; refine (rBreaks x3 _ _ _ _ p f HP2.out HF2.out).mono ?_; rintro e w' ⟨u, rfl, x4, rfl, hI2⟩; have I2 := Lib.hid hI2; obtain ⟨a2, c2, rfl, _, _⟩ := hI2)
  have HP3 := Lib.hid (HP2.out.below x4.h)
  have HF3 := Lib.hid (HF2.out.below x4.h)
  replace p0 := Later.cells x4.h p0
  replace p1 := Later.cells x4.h p1
  replace p2 := Later.cells x4.h p2
  replace I1 := Lib.hid (I1.out.below x4.h)
  show Code.wp _ _ _ _ (Later.now x4.w).w
  have hB3 : Below W.heap.size W x4.w := below_then hB2 x4
  generalize Later.now x4.w = x5
  go_upto_region 13 with (go_at_call 39; refine (pViolates x5 _ _ _ _ p f HP3.out HF3.out).mono ?_; rintro e w' ⟨u, rfl, x6, rfl, hI3⟩; have I3 := Lib.hid hI3; obtain ⟨a3, c3, rfl, _, _⟩ := hI3)
  have HP4 := Lib.hid (HP3.out.below x6.h)
  have HF4 := Lib.hid (HF3.out.below x6.h)
  replace p0 := Later.cells x6.h p0
  replace p1 := Later.cells x6.h p1
  replace p2 := Later.cells x6.h p2
  replace I1 := Lib.hid (I1.out.below x6.h)
  replace I2 := Lib.hid (I2.out.below x6.h)
  show Code.wp _ _ _ _ (Later.now x6.w).w
  have hB4 : Below W.heap.size W x6.w := below_then hB3 x6
  generalize Later.now x6.w = x7
  go_upto_region 14 with (go_at_call 40; refine (rViolates x7 _ _ _ _ p f HP4.out HF4.out).mono ?_; rintro e w' ⟨u, rfl, x8, rfl, hI4⟩; have I4 := Lib.hid hI4; obtain ⟨a4, c4, rfl, _, _⟩ := hI4)
  have HP5 := Lib.hid (HP4.out.below x8.h)
  have HF5 := Lib.hid (HF4.out.below x8.h)
  replace p0 := Later.cells x8.h p0
  replace p1 := Later.cells x8.h p1
  replace p2 := Later.cells x8.h p2
  replace I1 := Lib.hid (I1.out.below x8.h)
  replace I2 := Lib.hid (I2.out.below x8.h)
  replace I3 := Lib.hid (I3.out.below x8.h)
  show Code.wp _ _ _ _ (Later.now x8.w).w
  have hB5 : Below W.heap.size W x8.w := below_then hB4 x8
  generalize Later.now x8.w = x9
  have hS1 : Hid (∀ y : Later x8.w, Calls Try.prog 20 #[.slice a1 (brkL p f).length c1, .slice a2 (brkL p f).length c2] y.w (Ends x8.w (.bool true))) := Lib.hid (fun y => by have h := rSameInts y _ _ _ _ I1.out I2.out; rw [decide_eq_true rfl] at h; exact h)
  have hS2 : Hid (∀ y : Later x8.w, Calls Try.prog 20 #[.slice a3 (vioL p f).length c3, .slice a4 (vioL p f).length c4] y.w (Ends x8.w (.bool true))) := Lib.hid (fun y => by have h := rSameInts y _ _ _ _ I3.out I4.out; rw [decide_eq_true rfl] at h; exact h)
  go_upto_region 16 with (first | (go_at_call 41; refine (pAgrees x9 _ _ _ _ p f HP5.out HF5.out).mono ?_; rintro e w' ⟨rfl, x9, rfl⟩) | (go_at_call 42; refine (rAgrees x9 _ _ _ _ p f HP5.out HF5.out).mono ?_; rintro e w' ⟨rfl, x9, rfl⟩))
  go_wp2_with (first | (go_at_call 20; have hx := x10.h; clear hx; refine (hS2.out x10).mono ?_; rintro e w' ⟨rfl, x11, rfl⟩) | (go_at_call 20; refine (hS1.out x9).mono ?_; rintro e w' ⟨rfl, x10, rfl⟩))
  go_ret; exact ⟨rfl, ⟨x11.w, below_then hB5 x11⟩, rfl⟩
end Go.Proofs.Ytmpkbolabdmkkaa
