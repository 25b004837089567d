/- CONTRACTS of the reference's check of a rule of pairs. -/
import Derived.Test.YtmpkbolabdmkkaaRefA
namespace Go.Proofs.Ytmpkbolabdmkkaa
open Go.RowKit

set_option maxRecDepth 100000 in
set_option maxHeartbeats 1000000 in
theorem rpair {W : World} (x : Later W) (v0 v1 v2 u2 u3 u6 : Value) (p : Prob) (r : Rl) (hp : IsProb W v0 v1 v2 p) (hr : IsRl W u2 u3 u6 r) (hlen : p.opts.length = p.panes.length) :
    Calls Try.prog 88 #[.agg #[v0, v1, v2], .agg #[.int .i64 r.item, .int .i64 r.kind, u2, u3, .int .i64 r.lo, .int .i64 r.hi, u6]] x.w (Ends W (.bool (pairOK p r))) := by
  replace hlen := Lib.hid hlen
  have hno := Lib.hid (@pairOK_no p r)
  have hyes := Lib.hid (@pairOK_iff p r)
  go_enter Try.func88, Try.ntmps88
  go_upto_region 1 with (fail)
  obtain ⟨W1, x1, e1, hb1, ⟨s1, s2⟩, ⟨p0, p1, p2⟩, q0, q1, q2, q3, q4, q5, q6⟩ := enter37 x v0 v1 v2 (.int .i64 r.item) (.int .i64 r.kind) u2 u3 (.int .i64 r.lo) (.int .i64 r.hi) u6 26 87
  rw [e1]; clear e1
  obtain ⟨ap, cp, rfl, lp, hpanes⟩ := (hp.panes.below hb1).opened
  obtain ⟨ao, co, rfl, lo, hopts⟩ := (hp.opts.below hb1).opened
  obtain ⟨aq, cq, rfl, lq, hq⟩ := (hr.panes.below hb1).opened
  obtain ⟨ah, ch, rfl, lh, hh⟩ := (hr.hits.below hb1).opened
  obtain ⟨ak, ck, rfl, lk, hk⟩ := (hr.ok.below hb1).opened
  clear hp hr
  by_cases hl : r.panes.length = 2 ∧ r.hits.length = 0 ∧ r.lo = 0 ∧ r.hi = 0
  case neg =>
    replace hno := Lib.hid (hno.out (fun h => hl h.1))
    by_cases g1 : r.panes.length = 2
    · have g1' : (r.panes.length : Int) = 2 := by omega
      by_cases g2 : r.hits.length = 0
      · have g2' : (r.hits.length : Int) = 0 := by omega
        by_cases g3 : r.lo = 0
        · have g4 : ¬ r.hi = 0 := fun h => hl ⟨g1, g2, g3, h⟩
          clear hl
          go_wp2
          go_ret; exact ⟨ret_bool hno.out.symm, x1.down hb1⟩
        · clear hl
          go_wp2
          go_ret; exact ⟨ret_bool hno.out.symm, x1.down hb1⟩
      · have g2' : 0 < r.hits.length := by omega
        clear hl g2
        go_wp2
        go_ret; exact ⟨ret_bool hno.out.symm, x1.down hb1⟩
    · clear hl
      go_wp2
      go_ret; exact ⟨ret_bool hno.out.symm, x1.down hb1⟩
  have hl' := Lib.hid hl
  obtain ⟨hl1, hl2, hl3, hl4⟩ := hl
  have hl1' : (r.panes.length : Int) = 2 := by omega
  have hl2' : (r.hits.length : Int) = 0 := by omega
  obtain ⟨b, o, rfl, hb, c0⟩ := hq.out 0 (by omega)
  obtain ⟨_, _, he, _, c1⟩ := hq.out 1 (by omega)
  cases he
  simp only [Nat.add_zero] at c0
  go_wp2
  cases hAB : nth r.panes 0 == nth r.panes 1
  case true =>
    refine wp_region_later x1 (by kernel_rfl) (by kernel_rfl) ?_
    repeat (go_big_quiet_step ((go_at_call 85; exact calls_same (rwithin _ _ _ _))))
    refine wpQuiet_nil ?_
    rintro _ ⟨x1, rfl⟩
    go_wp2
    go_ret; exact ⟨ret_bool (hno.out (fun h => h.2.1 (eq_beqI hAB))).symm, x1.down hb1⟩
  cases hA : wi (nth r.panes 0) 0 ((p.panes.length : Int) - 1)
  case false =>
    refine wp_region_later x1 (by kernel_rfl) (by kernel_rfl) ?_
    repeat (go_big_quiet_step ((go_at_call 85; exact calls_same (rwithin _ _ _ _))))
    refine wpQuiet_nil ?_
    rintro _ ⟨x1, rfl⟩
    go_wp2
    go_ret; exact ⟨ret_bool (hno.out (fun h => by have := h.2.2.1; rw [hA] at this; cases this)).symm, x1.down hb1⟩
  have hA' := wi_iff.1 hA
  cases hB : wi (nth r.panes 1) 0 ((p.panes.length : Int) - 1)
  case false =>
    refine wp_region_later x1 (by kernel_rfl) (by kernel_rfl) ?_
    repeat (go_big_quiet_step ((go_at_call 85; exact calls_same (rwithin _ _ _ _))))
    refine wpQuiet_nil ?_
    rintro _ ⟨x1, rfl⟩
    go_wp2
    go_ret; exact ⟨ret_bool (hno.out (fun h => by have := h.2.2.2.1; rw [hB] at this; cases this)).symm, x1.down hb1⟩
  have hB' := wi_iff.1 hB
  have i0 : (nth r.panes 0).toNat < p.opts.length := by have := hlen.out; omega
  have i1 : (nth r.panes 1).toNat < p.opts.length := by have := hlen.out; omega
  obtain ⟨bo, oo, rfl, hbo, uo, co0, hO⟩ := hopts.out (nth r.panes 0).toNat i0
  obtain ⟨av, cv, rfl, lv, _⟩ := hO.opened
  obtain ⟨_, _, he, _, uo1, co1, hO1⟩ := hopts.out (nth r.panes 1).toNat i1
  cases he
  obtain ⟨av1, cv1, rfl, lv1, _⟩ := hO1.opened
  refine wp_region_later x1 (by kernel_rfl) (by kernel_rfl) ?_
  repeat (go_big_quiet_step ((go_at_call 85; exact calls_same (rwithin _ _ _ _))))
  refine wpQuiet_nil ?_
  rintro _ ⟨x1, rfl⟩
  go_wp2
  · go_ret; exact ⟨ret_bool (hno.out (fun h => by have := h.2.2.2.2.1; exact ne_bne (by assumption) this)).symm, x1.down hb1⟩
  have hok : Hid (r.ok.length = (nth p.opts (nth r.panes 0).toNat).length) := Lib.hid (eq_bne (by assumption))
  go_loopw [7] (fun i wr => ∃ k : Nat, k ≤ r.ok.length ∧ i = .int .i64 k ∧ (∃ y : Later W1, wr = y.w) ∧ (∀ i, i < k → (nth r.ok i).length = (nth p.opts (nth r.panes 1).toNat).length)) (fun i _ => r.ok.length - (intOf i).toNat)
  case atStart => exact ⟨0, Nat.zero_le _, rfl, ⟨x1, rfl⟩, by omega⟩
  case round =>
    obtain ⟨k, hk', rfl, ⟨x, rfl⟩, hdone⟩ := hrel
    replace hdone := Lib.hid hdone
    by_cases hlt : k < r.ok.length
    · obtain ⟨bk, ok, rfl, hbk, uk, ck0, hU⟩ := hk.out k hlt
      obtain ⟨au, cu, rfl, lu, _⟩ := hU.opened
      go_wp2
      refine wp_region_later x (by kernel_rfl) (by kernel_rfl) ?_
      repeat (go_big_quiet_step (fail))
      refine wpQuiet_nil ?_
      rintro _ ⟨x, rfl⟩
      go_wp2
      · go_ret; exact ⟨ret_bool (hno.out (fun h => by have := h.2.2.2.2.2 k hlt; exact ne_bne (by assumption) this)).symm, x.down hb1⟩
      · go_roundw
        case rel => exact ⟨k + 1, by omega, by go_num, ⟨x, rfl⟩, all_step hdone.out (eq_bne (by assumption))⟩
        case measure => simp [intOf]; omega
    · obtain rfl : k = r.ok.length := by omega
      go_wp2
      go_ret; exact ⟨ret_bool (hyes.out.2 ⟨hl'.out, ne_beqI hAB, hA, hB, hok.out, hdone.out⟩).symm, x.down hb1⟩
end Go.Proofs.Ytmpkbolabdmkkaa
