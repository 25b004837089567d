/- CONTRACTS of the reference's SameRule, SameProblem. -/
import Derived.Test.YtmpkbolabdmkkaaBas3
import Derived.Test.YtmpkbolabdmkkaaRefR
namespace Go.Proofs.Ytmpkbolabdmkkaa
open Go.RowKit

theorem opt_ext {a b : Opt} (h1 : a.piece = b.piece) (h2 : a.shift = b.shift) (h3 : a.back = b.back) (h4 : a.colour = b.colour) : a = b := by
  obtain ⟨a1, a2, a3, a4⟩ := a; obtain ⟨b1, b2, b3, b4⟩ := b; simp_all

theorem rl_eq (a b : Rl) : decide (a = b) = ((a.item == b.item) && (a.kind == b.kind) && ((a.lo == b.lo) && (a.hi == b.hi)) && decide (a.panes = b.panes) && decide (a.hits = b.hits) && decide (a.ok = b.ok)) := by
  obtain ⟨a1, a2, a3, a4, a5, a6, a7⟩ := a
  obtain ⟨b1, b2, b3, b4, b5, b6, b7⟩ := b
  rw [Bool.eq_iff_iff]
  simp only [decide_eq_true_eq, Rl.mk.injEq, Bool.and_eq_true, beq_iff_eq]
  constructor
  · rintro ⟨h1, h2, h3, h4, h5, h6, h7⟩; exact ⟨⟨⟨⟨⟨h1, h2⟩, h5, h6⟩, h3⟩, h4⟩, h7⟩
  · rintro ⟨⟨⟨⟨⟨h1, h2⟩, h5, h6⟩, h3⟩, h4⟩, h7⟩; exact ⟨h1, h2, h3, h4, h5, h6, h7⟩

set_option maxRecDepth 100000 in
set_option maxHeartbeats 2000000 in
theorem rSameRule {W : World} (x : Later W) (u2 u3 u6 v2 v3 v6 : Value) (a b : Rl) (ha : IsRl W u2 u3 u6 a) (hb : IsRl W v2 v3 v6 b) :
    Calls Try.prog 79 #[.agg #[.int .i64 a.item, .int .i64 a.kind, u2, u3, .int .i64 a.lo, .int .i64 a.hi, u6], .agg #[.int .i64 b.item, .int .i64 b.kind, v2, v3, .int .i64 b.lo, .int .i64 b.hi, v6]] x.w (Ends W (.bool (decide (a = b)))) := by
  have hres := Lib.hid (rl_eq a b)
  go_enter Try.func79, Try.ntmps79
  go_upto_region 1 with (fail)
  obtain ⟨W1, x1, e1, hb1, ⟨s1, s2⟩, ⟨p0, p1, p2, p3, p4, p5, p6⟩, q0, q1, q2, q3, q4, q5, q6⟩ := enter77 x (.int .i64 a.item) (.int .i64 a.kind) u2 u3 (.int .i64 a.lo) (.int .i64 a.hi) u6 (.int .i64 b.item) (.int .i64 b.kind) v2 v3 (.int .i64 b.lo) (.int .i64 b.hi) v6 87 87
  rw [e1]; clear e1
  have HA := Lib.hid (ha.below hb1)
  have HB := Lib.hid (hb.below hb1)
  obtain ⟨a2, c2, rfl, _, _⟩ := ha.panes.opened
  obtain ⟨a3, c3, rfl, _, _⟩ := ha.hits.opened
  obtain ⟨a6, c6, rfl, _, _⟩ := ha.ok.opened
  obtain ⟨b2, d2, rfl, _, _⟩ := hb.panes.opened
  obtain ⟨b3, d3, rfl, _, _⟩ := hb.hits.opened
  obtain ⟨b6, d6, rfl, _, _⟩ := hb.ok.opened
  clear ha hb
  cases h1 : a.item == b.item
  · rw [h1] at hres
    go_wp2_with fail
    go_ret; exact ⟨ret_bool (by rw [hres.out]; rfl), x1.down hb1⟩
  cases h2 : a.kind == b.kind
  · rw [h1, h2] at hres
    go_wp2_with fail
    go_ret; exact ⟨ret_bool (by rw [hres.out]; rfl), x1.down hb1⟩
  rw [h1, h2] at hres
  by_cases h3 : a.lo = b.lo
  case neg =>
    have e3 : (a.lo == b.lo) = false := by simp [h3]
    rw [e3] at hres
    clear e3
    go_wp2_with fail
    go_ret; exact ⟨ret_bool (by rw [hres.out]; rfl), x1.down hb1⟩
  by_cases h4 : a.hi = b.hi
  case neg =>
    have e4 : (a.hi == b.hi) = false := by simp [h4]
    rw [e4] at hres
    clear e4
    go_wp2_with fail
    go_ret; exact ⟨ret_bool (by rw [hres.out]; simp), x1.down hb1⟩
  have e3 : (a.lo == b.lo) = true := by simp [h3]
  have e4 : (a.hi == b.hi) = true := by simp [h4]
  rw [e3, e4] at hres
  clear e3 e4
  cases h5 : decide (a.panes = b.panes)
  · rw [h5] at hres
    go_wp2_with (go_at_call 20; refine (rSameInts x1 _ _ _ _ HA.out.panes HB.out.panes).mono ?_; rintro e w' ⟨rfl, x1, rfl⟩)
    go_ret; exact ⟨ret_bool (by rw [hres.out]; rfl), x1.down hb1⟩
  rw [h5] at hres
  cases h6 : decide (a.hits = b.hits)
  · rw [h6] at hres
    go_wp2_with (first | (go_at_call 20; refine (rSameInts x1 _ _ _ _ HA.out.panes HB.out.panes).mono ?_; rintro e w' ⟨rfl, x1, rfl⟩) | (go_at_call 45; refine (rSameTables x1 _ _ _ _ HA.out.hits HB.out.hits).mono ?_; rintro e w' ⟨rfl, x1, rfl⟩))
    go_ret; exact ⟨ret_bool (by rw [hres.out]; rfl), x1.down hb1⟩
  rw [h6] at hres
  go_wp2_with (first | (go_at_call 20; refine (rSameInts x1 _ _ _ _ HA.out.panes HB.out.panes).mono ?_; rintro e w' ⟨rfl, x1, rfl⟩) | (go_at_call 45; (with_reducible refine (rSameTables x1 _ _ _ _ HA.out.hits HB.out.hits).mono ?_); rintro e w' ⟨rfl, x1, rfl⟩) | (go_at_call 45; (with_reducible refine (rSameTables x1 _ _ _ _ HA.out.ok HB.out.ok).mono ?_); rintro e w' ⟨rfl, x1, rfl⟩))
  go_ret; exact ⟨ret_bool (by rw [hres.out]; simp), x1.down hb1⟩

set_option maxRecDepth 100000 in
set_option maxHeartbeats 2000000 in
theorem rSameProblem {W : World} (x : Later W) (u0 u1 u2 v0 v1 v2 : Value) (a b : Prob) (ha : IsProb W u0 u1 u2 a) (hb : IsProb W v0 v1 v2 b) :
    Calls Try.prog 21 #[.agg #[u0, u1, u2], .agg #[v0, v1, v2]] x.w (Ends W (.bool (decide (a = b)))) := by
  go_enter Try.func21, Try.ntmps21
  go_upto_region 1 with (fail)
  obtain ⟨W1, x1, e1, hb1, ⟨s1, s2⟩, ⟨p0, p1, p2⟩, q0, q1, q2⟩ := enter33 x u0 u1 u2 v0 v1 v2 26 26
  rw [e1]; clear e1
  have HA := Lib.hid (ha.below hb1)
  have HB := Lib.hid (hb.below hb1)
  obtain ⟨a0, c0, rfl, _, _⟩ := HA.out.panes.opened
  obtain ⟨a1, c1, rfl, _, hO1⟩ := HA.out.opts.opened
  obtain ⟨a2, c2, rfl, _, hR1⟩ := HA.out.rules.opened
  obtain ⟨b0, d0, rfl, _, _⟩ := HB.out.panes.opened
  obtain ⟨b1, d1, rfl, _, hO2⟩ := HB.out.opts.opened
  obtain ⟨b2, d2, rfl, _, hR2⟩ := HB.out.rules.opened
  clear ha hb
  have hne1 : Hid (a.panes ≠ b.panes → decide (a = b) = false) := Lib.hid (fun h => dec_no (fun h' => h (by rw [h'])))
  have hne2 : Hid (a.opts ≠ b.opts → decide (a = b) = false) := Lib.hid (fun h => dec_no (fun h' => h (by rw [h'])))
  have hne3 : Hid (a.rules ≠ b.rules → decide (a = b) = false) := Lib.hid (fun h => dec_no (fun h' => h (by rw [h'])))
  cases h1 : decide (a.panes = b.panes)
  · have hno := Lib.hid (hne1.out (by simpa using h1))
    go_wp2_with (go_at_call 20; refine (rSameInts x1 _ _ _ _ HA.out.panes HB.out.panes).mono ?_; rintro e w' ⟨rfl, x1, rfl⟩)
    go_ret; exact ⟨ret_bool hno.out.symm, x1.down hb1⟩
  by_cases h2 : a.opts.length = b.opts.length
  case neg =>
    have hno := Lib.hid (hne2.out (fun h => h2 (by rw [h])))
    have e2 : ((a.opts.length : Int) != b.opts.length) = true := by simp; omega
    clear h2
    go_wp2_with (go_at_call 20; refine (rSameInts x1 _ _ _ _ HA.out.panes HB.out.panes).mono ?_; rintro e w' ⟨rfl, x1, rfl⟩)
    go_ret; exact ⟨ret_bool hno.out.symm, x1.down hb1⟩
  have e2 : ((a.opts.length : Int) != b.opts.length) = false := by simp; omega
  replace h2 := Lib.hid h2
  by_cases h3 : a.rules.length = b.rules.length
  case neg =>
    have hno := Lib.hid (hne3.out (fun h => h3 (by rw [h])))
    have e3 : ((a.rules.length : Int) != b.rules.length) = true := by simp; omega
    clear h3
    go_wp2_with (go_at_call 20; refine (rSameInts x1 _ _ _ _ HA.out.panes HB.out.panes).mono ?_; rintro e w' ⟨rfl, x1, rfl⟩)
    go_ret; exact ⟨ret_bool hno.out.symm, x1.down hb1⟩
  have e3 : ((a.rules.length : Int) != b.rules.length) = false := by simp; omega
  replace h3 := Lib.hid h3
  go_wp2_with (go_at_call 20; refine (rSameInts x1 _ _ _ _ HA.out.panes HB.out.panes).mono ?_; rintro e w' ⟨rfl, x1, rfl⟩)
  go_loopw [5, 6] (fun i _ wr => ∃ k : Nat, k ≤ a.opts.length ∧ i = .int .i64 k ∧ (∃ y : Later W1, wr = y.w) ∧ (∀ i, i < k → nth a.opts i = nth b.opts i)) (fun i _ _ => a.opts.length - (intOf i).toNat)
  case atStart => exact ⟨0, Nat.zero_le _, rfl, ⟨x1, rfl⟩, by omega⟩
  case round =>
    obtain ⟨k, hk, rfl, ⟨x, rfl⟩, hin⟩ := hrel
    replace hin := Lib.hid hin
    by_cases hlt : k < a.opts.length
    · have hltb : k < b.opts.length := by have := h2.out; omega
      obtain ⟨g1, o1, rfl, hg1, y1, f1, hU1⟩ := hO1.out k hlt
      obtain ⟨g2, o2, rfl, hg2, y2, f2, hU2⟩ := hO2.out k hltb
      obtain ⟨a3, c3, rfl, l3, t3⟩ := hU1.opened
      obtain ⟨a4, c4, rfl, l4, t4⟩ := hU2.opened
      go_wp2
      refine wp_region_later x (by kernel_rfl) (by kernel_rfl) ?_
      repeat (go_big_quiet_step (fail))
      refine wpQuiet_nil ?_
      rintro _ ⟨x, rfl⟩
      go_wp2
      · go_ret; exact ⟨ret_bool (hne2.out (fun h => ne_bne (by assumption) (by rw [h]))).symm, x.down hb1⟩
      · have hrl : Hid ((nth a.opts k).length = (nth b.opts k).length) := Lib.hid (eq_bne (by assumption))
        go_loopw [6] (fun i wr => ∃ m : Nat, m ≤ (nth a.opts k).length ∧ i = .int .i64 m ∧ (∃ y : Later W1, wr = y.w) ∧ (∀ i, i < m → nth (nth a.opts k) i = nth (nth b.opts k) i)) (fun i _ => (nth a.opts k).length - (intOf i).toNat)
        case atStart => exact ⟨0, Nat.zero_le _, rfl, ⟨x, rfl⟩, by omega⟩
        case round =>
          obtain ⟨m, hm, rfl, ⟨x, rfl⟩, hin2⟩ := hrel
          replace hin2 := Lib.hid hin2
          by_cases hlt' : m < (nth a.opts k).length
          · have hltb' : m < (nth b.opts k).length := by have := hrl.out; omega
            obtain ⟨g5, o5, rfl, hg5, w0, w1, w2, w3⟩ := t3.out m hlt'
            obtain ⟨g6, o6, rfl, hg6, z0, z1, z2, z3⟩ := t4.out m hltb'
            cases t1 : (nth (nth a.opts k) m).piece == (nth (nth b.opts k) m).piece
            · go_wp2
              refine wp_region_later x (by kernel_rfl) (by kernel_rfl) ?_
              repeat (go_big_quiet_step (fail))
              refine wpQuiet_nil ?_
              rintro _ ⟨x, rfl⟩
              go_wp2
              go_ret; exact ⟨ret_bool (hne2.out (fun h => by rw [h] at t1; simp at t1)).symm, x.down hb1⟩
            cases t2 : (nth (nth a.opts k) m).shift == (nth (nth b.opts k) m).shift
            · go_wp2
              refine wp_region_later x (by kernel_rfl) (by kernel_rfl) ?_
              repeat (go_big_quiet_step (fail))
              refine wpQuiet_nil ?_
              rintro _ ⟨x, rfl⟩
              go_wp2
              go_ret; exact ⟨ret_bool (hne2.out (fun h => by rw [h] at t2; simp at t2)).symm, x.down hb1⟩
            cases t3 : (nth (nth a.opts k) m).back == (nth (nth b.opts k) m).back
            · go_wp2
              refine wp_region_later x (by kernel_rfl) (by kernel_rfl) ?_
              repeat (go_big_quiet_step (fail))
              refine wpQuiet_nil ?_
              rintro _ ⟨x, rfl⟩
              go_wp2
              go_ret; exact ⟨ret_bool (hne2.out (fun h => by rw [h] at t3; simp at t3)).symm, x.down hb1⟩
            cases t4 : (nth (nth a.opts k) m).colour == (nth (nth b.opts k) m).colour
            · go_wp2
              refine wp_region_later x (by kernel_rfl) (by kernel_rfl) ?_
              repeat (go_big_quiet_step (fail))
              refine wpQuiet_nil ?_
              rintro _ ⟨x, rfl⟩
              go_wp2
              go_ret; exact ⟨ret_bool (hne2.out (fun h => by rw [h] at t4; simp at t4)).symm, x.down hb1⟩
            have heq : Hid (nth (nth a.opts k) m = nth (nth b.opts k) m) := Lib.hid (opt_ext (by simpa using t1) (by simpa using t2) (by simpa using t3) (by simpa using t4))
            go_wp2
            refine wp_region_later x (by kernel_rfl) (by kernel_rfl) ?_
            repeat (go_big_quiet_step (fail))
            refine wpQuiet_nil ?_
            rintro _ ⟨x, rfl⟩
            go_wp2
            go_roundw
            case rel => exact ⟨m + 1, by omega, by go_num, ⟨x, rfl⟩, all_step hin2.out heq.out⟩
            case measure => simp [intOf]; omega
          · obtain rfl : m = (nth a.opts k).length := by omega
            go_wp2
            go_roundw
            case rel => exact ⟨k + 1, by omega, by go_num, ⟨x, rfl⟩, all_step hin.out (ext_nth hrl.out hin2.out)⟩
            case measure => simp [intOf]; omega
    · obtain rfl : k = a.opts.length := by omega
      have heo := Lib.hid (ext_nth h2.out hin.out)
      go_wp2
      go_loopw [7] (fun i wr => ∃ k : Nat, k ≤ a.rules.length ∧ i = .int .i64 k ∧ (∃ y : Later W1, wr = y.w) ∧ (∀ i, i < k → nth a.rules i = nth b.rules i)) (fun i _ => a.rules.length - (intOf i).toNat)
      case atStart => exact ⟨0, Nat.zero_le _, rfl, ⟨x, rfl⟩, by omega⟩
      case round =>
        obtain ⟨k, hk, rfl, ⟨x, rfl⟩, hin⟩ := hrel
        replace hin := Lib.hid hin
        by_cases hlt : k < a.rules.length
        · have hltb : k < b.rules.length := by have := h3.out; omega
          obtain ⟨g1, o1, rfl, hg1, r2, r3, r6, f0, f1, f2, f3, f4, f5, f6, hI1⟩ := hR1.out k hlt
          obtain ⟨g2, o2, rfl, hg2, t2, t3, t6, j0, j1, j2, j3, j4, j5, j6, hI2⟩ := hR2.out k hltb
          have HI1 := Lib.hid hI1
          have HI2 := Lib.hid hI2
          obtain ⟨_, _, rfl, _, _⟩ := hI1.panes.opened
          obtain ⟨_, _, rfl, _, _⟩ := hI1.hits.opened
          obtain ⟨_, _, rfl, _, _⟩ := hI1.ok.opened
          obtain ⟨_, _, rfl, _, _⟩ := hI2.panes.opened
          obtain ⟨_, _, rfl, _, _⟩ := hI2.hits.opened
          obtain ⟨_, _, rfl, _, _⟩ := hI2.ok.opened
          clear hI1 hI2
          go_wp2
          refine wp_region_later x (by kernel_rfl) (by kernel_rfl) ?_
          repeat (go_big_quiet_step ((go_at_call 79; exact rSameRule _ _ _ _ _ _ _ (nth a.rules k) (nth b.rules k) HI1.out HI2.out)))
          refine wpQuiet_nil ?_
          rintro _ ⟨x, rfl⟩
          cases hA : decide (nth a.rules k = nth b.rules k) <;> go_wp2
          · go_ret; exact ⟨ret_bool (hne3.out (fun h => by simp [h] at hA)).symm, x.down hb1⟩
          · go_roundw
            case rel => exact ⟨k + 1, by omega, by go_num, ⟨x, rfl⟩, all_step hin.out (by simpa using hA)⟩
            case measure => simp [intOf]; omega
        · obtain rfl : k = a.rules.length := by omega
          have her := ext_nth h3.out hin.out
          have hall : Hid (decide (a = b) = true) := Lib.hid (dec_yes (by
            obtain ⟨pa, oa, ra⟩ := a; obtain ⟨pb, ob, rb⟩ := b
            have e0 : pa = pb := by simpa using h1
            have e1 : oa = ob := heo.out
            have e2 : ra = rb := her
            rw [e0, e1, e2]))
          clear her
          go_wp2
          go_ret; exact ⟨ret_bool hall.out.symm, x.down hb1⟩
end Go.Proofs.Ytmpkbolabdmkkaa
