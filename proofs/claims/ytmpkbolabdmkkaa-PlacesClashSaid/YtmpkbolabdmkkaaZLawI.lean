/- CONTRACT of PlacesKeeps. -/
import Derived.Test.YtmpkbolabdmkkaaZLawD
import Derived.Test.YtmpkbolabdmkkaaZPnC
namespace Go.Proofs.Ytmpkbolabdmkkaa
open Go.RowKit

theorem largeE_cases (p : Prob) : (largeE p = 0 ∧ validP p = true) ∨ (largeE p = 2 ∧ validP p = true) ∨ (largeE p = 70 ∧ validP p = false) := by
  unfold largeE
  cases validP p
  · right; right; exact ⟨rfl, rfl⟩
  · by_cases h : 65536 < total p
    · right; left; rw [if_pos rfl, if_pos h]; exact ⟨rfl, rfl⟩
    · left; rw [if_pos rfl, if_neg h]; exact ⟨rfl, rfl⟩

set_option maxRecDepth 100000 in
set_option maxHeartbeats 4000000 in
theorem lawKeeps {W : World} (x : Later W) (v0 v1 v2 : Value) (p : Prob) (hp : IsProb W v0 v1 v2 p) : Calls Try.prog 8 #[.agg #[v0, v1, v2]] x.w (Ends W (.bool true)) := by
  go_enter Try.func8, Try.ntmps8
  go_upto_region 1 with (fail)
  obtain ⟨W1, x1, e1, hb1, s1, p0, p1, p2⟩ := enter3 x v0 v1 v2 26
  rw [e1]; clear e1
  have HP := Lib.hid (hp.below hb1)
  obtain ⟨ap, cp, rfl, lp, _⟩ := hp.panes.opened
  obtain ⟨ao, co, rfl, lo, _⟩ := hp.opts.opened
  obtain ⟨ar, cr, rfl, lr, _⟩ := hp.rules.opened
  clear hp
  go_upto_region 2 with (go_at_call 14; refine (lawake x1).mono ?_; rintro e w' ⟨rfl, x1, rfl⟩)
  go_wp2_with (fail)
  refine (llight x1 _ _ _ p HP.out).mono ?_
  rintro e w' ⟨bs, rfl, x1, rfl⟩
  cases bs
  · go_wp2
    go_ret; exact ⟨rfl, x1.down hb1⟩
  have hB := hb1
  go_upto_region 5 with (go_at_call 46; refine (pPossible x1 _ _ _ p HP.out).mono ?_; rintro e w' ⟨u, rfl, y1, rfl, hI⟩; have I1 := Lib.hid hI; obtain ⟨a1, c1, rfl, hx1, hx2⟩ := hI; clear hx1 hx2)
  replace HP := Lib.hid (HP.out.below y1.h)
  replace p0 := Later.cells y1.h p0
  replace p1 := Later.cells y1.h p1
  replace p2 := Later.cells y1.h p2
  replace s1 := Later.sizes y1.h s1
  replace hB := below_then hB y1
  show Code.wp _ _ _ _ (Later.now y1.w).w
  generalize Later.now y1.w = xb
  go_upto_region 6 with (go_at_call 43; refine (pPrune xb _ _ _ p HP.out).mono ?_; rintro e w' ⟨u, en, T, rfl, ⟨y2, rfl, hI⟩, hcase⟩; have I2 := Lib.hid hI; obtain ⟨a2, c2, rfl, hx1, hx2⟩ := hI; clear hx1 hx2)
  replace I1 := Lib.hid (I1.out.below y2.h)
  replace hB := below_then hB y2
  show Code.wp _ _ _ _ (Later.now y2.w).w
  generalize Later.now y2.w = xb
  have hbase : Hid (∀ y : Later y2.w, Ends W (.bool true) (.returned (.bool true)) y.w) := Lib.hid (fun y => ⟨rfl, ⟨y.w, below_then hB y⟩, rfl⟩)
  rcases largeE_cases p with ⟨h0, hv⟩ | ⟨h0, hv⟩ | ⟨h0, hv⟩
  · rcases hcase with ⟨hv', _, _⟩ | ⟨_, rfl, hpr⟩
    · rw [hv] at hv'; cases hv'
    have hb0 : (largeE p != 0) = false := by simp [h0]
    have hps : possL p = possT p := by simp [possL, h0]
    rw [hps] at I1 ⊢
    have hpl := possT_length p
    have hprow := Lib.hid (fun j => @possT_rowlen p j)
    have hkeep := Lib.hid (fun i o => @prunes_keeps p hv T hpr i o)
    have hshp := hpr.shp (shp_full p true)
    have hTl := hshp.len
    have hTrow := Lib.hid hshp.row
    replace hps := Lib.hid hps
    rw [hpl, hTl]
    obtain ⟨_, _, hqq, _, htab⟩ := I1.out.opened
    rw [hpl] at hqq htab
    cases hqq
    obtain ⟨_, _, hqq, _, htab2⟩ := I2.out.opened
    rw [hTl] at hqq htab2
    cases hqq
    replace hpl := Lib.hid hpl
    replace hTl := Lib.hid hTl
    replace h0 := Lib.hid h0
    replace hshp := Lib.hid hshp
    clear hpr
    go_wp2
    go_loopw [8] (fun i wr => ∃ k : Nat, k ≤ p.opts.length ∧ i = .int .i64 k ∧ ∃ y : Later y2.w, wr = y.w) (fun i _ => p.opts.length - (intOf i).toNat)
    case atStart => exact ⟨0, Nat.zero_le _, rfl, xb, rfl⟩
    case round =>
      clear xb
      obtain ⟨k, hk, rfl, ⟨xb, rfl⟩⟩ := hrel
      by_cases hlt : k < p.opts.length
      · have ho2 := (valid_opts hv hlt).2
        obtain ⟨b1, o1, rfl, hb1', u1, t1, hT1⟩ := htab.out k hlt
        obtain ⟨b2, o2, rfl, hb2', u2, t2, hT2⟩ := htab2.out k hlt
        obtain ⟨a1, c1, rfl, _, hr1⟩ := hT1.opened
        obtain ⟨a2, c2, rfl, _, hr2⟩ := hT2.opened
        rw [hprow.out k hlt] at t1 hr1
        rw [hTrow.out k hlt] at t2 hr2
        clear hT1 hT2
        go_wp2
        refine wp_region_later xb (by kernel_rfl) (by kernel_rfl) ?_
        repeat (go_big_quiet_step (fail))
        refine wpQuiet_nil ?_
        rintro _ ⟨xb, rfl⟩
        go_wp2
        go_loopw [9] (fun i wr => ∃ m : Nat, m ≤ (nth p.opts k).length ∧ i = .int .i64 m ∧ ∃ y : Later y2.w, wr = y.w) (fun i _ => (nth p.opts k).length - (intOf i).toNat)
        case atStart => exact ⟨0, Nat.zero_le _, rfl, xb, rfl⟩
        case round =>
          clear xb
          obtain ⟨m, hm, rfl, ⟨xb, rfl⟩⟩ := hrel
          by_cases hlt2 : m < (nth p.opts k).length
          · obtain ⟨b3, o3, rfl, hb3', d1⟩ := hr1.out m hlt2
            obtain ⟨b4, o4, rfl, hb4', d2⟩ := hr2.out m hlt2
            have hkk := hkeep.out k m hlt hlt2
            cases hA : nth (nth (possT p) k) m <;> rw [hA] at d1
            · clear hkk
              go_wp2
              go_roundw
              case rel => exact ⟨m + 1, by omega, by go_num, xb, rfl⟩
              case measure => simp [intOf]; omega
            · rw [hkk hA] at d2
              clear hkk
              go_wp2
              go_roundw
              case rel => exact ⟨m + 1, by omega, by go_num, xb, rfl⟩
              case measure => simp [intOf]; omega
          · obtain rfl : m = (nth p.opts k).length := by omega
            go_wp2
            go_roundw
            case rel => exact ⟨k + 1, by omega, by go_num, xb, rfl⟩
            case measure => simp [intOf]; omega
      · obtain rfl : k = p.opts.length := by omega
        go_wp2
        go_ret; exact hbase.out _
  · rcases hcase with ⟨hv', _, _⟩ | ⟨_, rfl, hpr⟩
    · rw [hv] at hv'; cases hv'
    rw [h0]
    clear h0 hpr
    go_wp2
    go_ret; exact hbase.out _
  · rcases hcase with ⟨_, rfl, rfl⟩ | ⟨hv', _, _⟩
    · rw [h0]
      clear h0
      go_wp2
      go_ret; exact hbase.out _
    · rw [hv] at hv'; cases hv'
end Go.Proofs.Ytmpkbolabdmkkaa
