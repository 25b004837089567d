/- CONTRACT of places' check of a rule, whole. -/
import Derived.Test.YtmpkbolabdmkkaaPlE
namespace Go.Proofs.Ytmpkbolabdmkkaa
open Go.RowKit

set_option maxRecDepth 100000 in
set_option maxHeartbeats 2000000 in
theorem prule {W : World} (x : Later W) (v0 v1 v2 u2 u3 u6 : Value) (p : Prob) (r : Rl) (hp : IsProb W v0 v1 v2 p) (hr : IsRl W u2 u3 u6 r) (hlen : p.opts.length = p.panes.length) :
    Calls Try.prog 96 #[.agg #[v0, v1, v2], .agg #[.int .i64 r.item, .int .i64 r.kind, u2, u3, .int .i64 r.lo, .int .i64 r.hi, u6]] x.w (Ends W (.bool (ruleOK p r))) := by
  by_cases k2 : r.kind = 2
  case pos => exact prulePair x v0 v1 v2 u2 u3 u6 p r hp hr hlen k2
  replace k2 := Lib.hid k2
  replace hlen := Lib.hid hlen
  go_enter Try.func96, Try.ntmps96
  go_upto_region 1 with (fail)
  obtain ⟨W1, x1, e1, hb1, ⟨s1, s2⟩, ⟨p0, p1, p2⟩, q0, q1, q2, q3, q4, q5, q6⟩ := enter37 x v0 v1 v2 (.int .i64 r.item) (.int .i64 r.kind) u2 u3 (.int .i64 r.lo) (.int .i64 r.hi) u6 26 87
  rw [e1]; clear e1
  obtain ⟨ap, cp, rfl, lp, hpanes⟩ := (hp.panes.below hb1).opened
  obtain ⟨ao, co, rfl, lo, hopts⟩ := (hp.opts.below hb1).opened
  obtain ⟨aq, cq, rfl, lq, hq⟩ := (hr.panes.below hb1).opened
  obtain ⟨ah, ch, rfl, lh, hh⟩ := (hr.hits.below hb1).opened
  have HK := Lib.hid (hr.ok.below hb1)
  obtain ⟨ak, ck, rfl, lk, hk⟩ := (hr.ok.below hb1).opened
  clear hp hr
  by_cases k1 : r.kind = 1
  case pos =>
    have ht := Lib.hid (@ruleOK_cnt p r k1)
    rw [k1] at q1
    clear k1
    by_cases hl : r.hits.length = r.panes.length ∧ r.ok.length = 0
    case neg =>
      have hno := Lib.hid (@cntOK_no p r hl)
      replace hl := Lib.hid hl
      go_wp2
      · go_ret; exact ⟨ret_bool (ht.out.trans hno.out).symm, x1.down hb1⟩
      · exfalso; exact hl.out ⟨by omega, by omega⟩
      · go_ret; exact ⟨ret_bool (ht.out.trans hno.out).symm, x1.down hb1⟩
    have hyes := Lib.hid (@cntOK_yes p r hl)
    obtain ⟨hl1, hl2⟩ := hl
    have hl1' : (r.hits.length : Int) = r.panes.length := by omega
    replace hl1 := Lib.hid hl1
    go_wp2
    go_loopw [30] (fun i wr => ∃ k : Nat, k ≤ r.panes.length ∧ i = .int .i64 k ∧ (∃ y : Later W1, wr = y.w) ∧ (∀ i, i < k → wi (nth r.panes i) 0 ((p.panes.length : Int) - 1) = true ∧ (0 < i → nth r.panes (i - 1) < nth r.panes i) ∧ (nth r.hits i).length = (nth p.opts (nth r.panes i).toNat).length)) (fun i _ => r.panes.length - (intOf i).toNat)
    case atStart => exact ⟨0, Nat.zero_le _, rfl, ⟨x1, rfl⟩, by omega⟩
    case round =>
      obtain ⟨k, hk, rfl, ⟨x, rfl⟩, hno⟩ := hrel
      replace hno := Lib.hid hno
      by_cases hlt : k < r.panes.length
      · have hbad := Lib.hid (@cntOK_bad p r k hlt)
        have hkh : k < r.hits.length := by have := hl1.out; omega
        obtain ⟨b, o, rfl, hb, c0⟩ := hq.out k hlt
        obtain ⟨bh, oh, rfl, hbh, uh, ch0, hU⟩ := hh.out k hkh
        obtain ⟨au, cu, rfl, lu, _⟩ := hU.opened
        cases hA : wi (nth r.panes k) 0 ((p.panes.length : Int) - 1)
        · go_wp2
          refine wp_region_later x (by kernel_rfl) (by kernel_rfl) ?_
          repeat (go_big_quiet_step ((go_at_call 139; exact calls_same (pknown _ _ _ _ _ _ lp p0))))
          refine wpQuiet_nil ?_
          rintro _ ⟨x, rfl⟩
          go_wp2
          go_ret; exact ⟨ret_bool (ht.out.trans (hbad.out (.inl hA))).symm, x.down hb1⟩
        · have hA' := wi_iff.1 hA
          have hidx : (nth r.panes k).toNat < p.opts.length := by have := hlen.out; omega
          obtain ⟨bo, oo, rfl, hbo, uo, co0, hO⟩ := hopts.out (nth r.panes k).toNat hidx
          obtain ⟨av, cv, rfl, lv, _⟩ := hO.opened
          by_cases h2 : 0 < k
          · obtain ⟨_, _, he, _, d0⟩ := hq.out (k - 1) (by omega)
            cases he
            cases h3 : decide (nth r.panes k ≤ nth r.panes (k - 1))
            · go_wp2
              refine wp_region_later x (by kernel_rfl) (by kernel_rfl) ?_
              repeat (go_big_quiet_step ((go_at_call 139; exact calls_same (pknown _ _ _ _ _ _ lp p0))))
              refine wpQuiet_nil ?_
              rintro _ ⟨x, rfl⟩
              go_wp2
              · go_ret; exact ⟨ret_bool (ht.out.trans (hbad.out (.inr (.inr (ne_bne (by assumption)))))).symm, x.down hb1⟩
              · go_roundw
                case rel => exact ⟨k + 1, by omega, by go_num, ⟨x, rfl⟩, all_step hno.out ⟨hA, fun _ => by simpa using h3, eq_bne (by assumption)⟩⟩
                case measure => simp [intOf]; omega
            · go_wp2
              refine wp_region_later x (by kernel_rfl) (by kernel_rfl) ?_
              repeat (go_big_quiet_step ((go_at_call 139; exact calls_same (pknown _ _ _ _ _ _ lp p0))))
              refine wpQuiet_nil ?_
              rintro _ ⟨x, rfl⟩
              go_wp2
              go_ret; exact ⟨ret_bool (ht.out.trans (hbad.out (.inr (.inl ⟨h2, by simpa using h3⟩)))).symm, x.down hb1⟩
          · go_wp2
            refine wp_region_later x (by kernel_rfl) (by kernel_rfl) ?_
            repeat (go_big_quiet_step ((go_at_call 139; exact calls_same (pknown _ _ _ _ _ _ lp p0))))
            refine wpQuiet_nil ?_
            rintro _ ⟨x, rfl⟩
            go_wp2
            · go_ret; exact ⟨ret_bool (ht.out.trans (hbad.out (.inr (.inr (ne_bne (by assumption)))))).symm, x.down hb1⟩
            · go_roundw
              case rel => exact ⟨k + 1, by omega, by go_num, ⟨x, rfl⟩, all_step hno.out ⟨hA, fun h => absurd h h2, eq_bne (by assumption)⟩⟩
              case measure => simp [intOf]; omega
      · obtain rfl : k = r.panes.length := by omega
        go_wp2
        go_ret; exact ⟨ret_bool (ht.out.trans (hyes.out hno.out)).symm, x.down hb1⟩
  have ht := Lib.hid (@ruleOK_none p r k1 k2.out)
  have k2' := k2.out
  go_wp2
  go_ret; exact ⟨ret_bool ht.out.symm, x1.down hb1⟩
end Go.Proofs.Ytmpkbolabdmkkaa
