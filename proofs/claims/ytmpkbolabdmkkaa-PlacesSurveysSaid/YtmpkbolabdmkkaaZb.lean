/- CONTRACTS of the reference's small functions: within, option, before, options. -/
import Derived.Test.YtmpkbolabdmkkaaZa
namespace Go.Proofs.Ytmpkbolabdmkkaa
open Go.RowKit

set_option maxHeartbeats 400000 in
theorem rwithin (a b c : Int) (w : World) :
    Calls Try.prog 85 #[.int .i64 a, .int .i64 b, .int .i64 c] w fun e w' => e = .returned (.bool (wi a b c)) ∧ w = w' := by
  go_enter Try.func85, Try.ntmps85
  go_wp2
  all_goals (go_ret; exact ⟨ret_bool (by simp [wi]; try omega), rfl⟩)

set_option maxHeartbeats 400000 in
theorem roption {W : World} (x : Later W) (o : Opt) :
    Calls Try.prog 133 #[.agg #[.int .i64 o.piece, .int .i64 o.shift, .bool o.back, .int .i64 o.colour]] x.w (Ends W (.bool (optOK o))) := by
  go_enter Try.func133, Try.ntmps133
  go_wp2_with (go_at_call 85; refine (rwithin _ _ _ _).mono ?_; rintro e w' ⟨rfl, rfl⟩)
  all_goals (go_ret; exact ⟨ret_bool (by simp_all [optOK]), x.step (below_alloc1 _ _)⟩)

set_option maxHeartbeats 400000 in
theorem rbefore {W : World} (x : Later W) (a b : Opt) :
    Calls Try.prog 134 #[.agg #[.int .i64 a.piece, .int .i64 a.shift, .bool a.back, .int .i64 a.colour], .agg #[.int .i64 b.piece, .int .i64 b.shift, .bool b.back, .int .i64 b.colour]] x.w (Ends W (.bool (optLt a b))) := by
  go_enter Try.func134, Try.ntmps134
  go_wp2
  all_goals (go_ret; refine ⟨ret_bool ?_, x.step ((below_alloc1 _ _).trans ((below_alloc1 _ _).mono (by simp)))⟩)
  all_goals (unfold optLt; simp_all; try (rw [Bool.eq_iff_iff]; simp [*]))

set_option maxHeartbeats 1000000 in
theorem roptions {W : World} (x : Later W) (v : Value) (l : List Opt) (h : IsOpts W v l) :
    Calls Try.prog 86 #[v] x.w (Ends W (.bool (optsOK l))) := by
  obtain ⟨a, c, rfl, hl, h⟩ := h.opened
  by_cases hlen : 1 ≤ l.length ∧ l.length ≤ 256
  case neg =>
    have hno := Lib.hid (optsOK_no hlen)
    go_enter Try.func86, Try.ntmps86
    go_wp2
    all_goals (go_ret; exact ⟨ret_bool hno.out.symm, x, rfl⟩)
  have hyes := Lib.hid (@optsOK_yes l hlen)
  obtain ⟨hlen1, hlen2⟩ := hlen
  go_enter Try.func86, Try.ntmps86
  go_wp2
  go_loopw [3] (fun i wr => ∃ k : Nat, k ≤ l.length ∧ i = .int .i64 k ∧ (∃ x : Later W, wr = x.w) ∧ (∀ i, i < k → optOK (nth l i) = true ∧ (0 < i → optLt (nth l (i - 1)) (nth l i) = true))) (fun i _ => l.length - (intOf i).toNat)
  case atStart => exact ⟨0, Nat.zero_le _, rfl, ⟨x, rfl⟩, by omega⟩
  case round =>
    obtain ⟨k, hk, rfl, ⟨x, rfl⟩, hno⟩ := hrel
    replace hno := Lib.hid hno
    by_cases hlt : k < l.length
    · have hbad := Lib.hid (@optsOK_bad l k hlt)
      obtain ⟨b, o, rfl, hb, c0, c1, c2, c3⟩ := h.out k hlt
      by_cases h1 : optOK (nth l k) = true
      · by_cases h2 : 0 < k
        · obtain ⟨_, _, he, _, d0, d1, d2, d3⟩ := h.out (k - 1) (by omega)
          cases he
          go_wp2
          refine wp_region_later x (by kernel_rfl) (by kernel_rfl) ?_
          repeat (go_big_quiet_step ((first | (go_at_call 133; exact roption _ _) | (go_at_call 134; exact rbefore _ _ _))))
          refine wpQuiet_nil ?_
          rintro _ ⟨x, rfl⟩
          cases h3 : optLt (nth l (k - 1)) (nth l k) <;> go_wp2
          · go_ret; exact ⟨ret_bool (hbad.out (.inr ⟨h2, h3⟩)).symm, x, rfl⟩
          · go_roundw
            case rel => exact ⟨k + 1, by omega, by go_num, ⟨x, rfl⟩, all_step hno.out ⟨h1, fun _ => h3⟩⟩
            case measure => simp [intOf]; omega
        · go_wp2
          refine wp_region_later x (by kernel_rfl) (by kernel_rfl) ?_
          repeat (go_big_quiet_step ((first | (go_at_call 133; exact roption _ _) | (go_at_call 134; exact rbefore _ _ _))))
          refine wpQuiet_nil ?_
          rintro _ ⟨x, rfl⟩
          go_wp2
          go_roundw
          case rel => exact ⟨k + 1, by omega, by go_num, ⟨x, rfl⟩, all_step hno.out ⟨h1, fun h => absurd h h2⟩⟩
          case measure => simp [intOf]; omega
      · have h1 : optOK (nth l k) = false := by simpa using h1
        go_wp2
        refine wp_region_later x (by kernel_rfl) (by kernel_rfl) ?_
        repeat (go_big_quiet_step ((first | (go_at_call 133; exact roption _ _) | (go_at_call 134; exact rbefore _ _ _))))
        refine wpQuiet_nil ?_
        rintro _ ⟨x, rfl⟩
        go_wp2
        go_ret; exact ⟨ret_bool (hbad.out (.inl h1)).symm, x, rfl⟩
    · obtain rfl : k = l.length := by omega
      go_wp2
      go_ret; exact ⟨ret_bool (hyes.out hno.out).symm, x, rfl⟩
end Go.Proofs.Ytmpkbolabdmkkaa

/- CONTRACTS of the reference's checks of rules. -/
namespace Go.Proofs.Ytmpkbolabdmkkaa
open Go.RowKit

set_option maxHeartbeats 1000000 in
theorem rcount {W : World} (x : Later W) (v0 v1 v2 u2 u3 u6 : Value) (p : Prob) (r : Rl) (hp : IsProb W v0 v1 v2 p) (hr : IsRl W u2 u3 u6 r) (hlen : p.opts.length = p.panes.length) :
    Calls Try.prog 87 #[.agg #[v0, v1, v2], .agg #[.int .i64 r.item, .int .i64 r.kind, u2, u3, .int .i64 r.lo, .int .i64 r.hi, u6]] x.w (Ends W (.bool (cntOK p r))) := by
  replace hlen := Lib.hid hlen
  go_enter Try.func87, Try.ntmps87
  go_upto_region 1 with (fail)
  obtain ⟨W1, x1, e1, hb1, ⟨s1, s2⟩, ⟨p0, p1, p2⟩, q0, q1, q2, q3, q4, q5, q6⟩ := enter37 x v0 v1 v2 (.int .i64 r.item) (.int .i64 r.kind) u2 u3 (.int .i64 r.lo) (.int .i64 r.hi) u6 26 87
  rw [e1]; clear e1
  obtain ⟨ap, cp, rfl, lp, hpanes⟩ := (hp.panes.below hb1).opened
  obtain ⟨ao, co, rfl, lo, hopts⟩ := (hp.opts.below hb1).opened
  obtain ⟨aq, cq, rfl, lq, hq⟩ := (hr.panes.below hb1).opened
  obtain ⟨ah, ch, rfl, lh, hh⟩ := (hr.hits.below hb1).opened
  obtain ⟨ak, ck, rfl, lk, hk⟩ := (hr.ok.below hb1).opened
  clear hp hr
  by_cases hl : r.hits.length = r.panes.length ∧ r.ok.length = 0
  case neg =>
    have hno := Lib.hid (@cntOK_no p r hl)
    replace hl := Lib.hid hl
    go_wp2
    · go_ret; exact ⟨ret_bool hno.out.symm, x1.down hb1⟩
    · exfalso; exact hl.out ⟨by omega, by omega⟩
    · go_ret; exact ⟨ret_bool hno.out.symm, x1.down hb1⟩
  have hyes := Lib.hid (@cntOK_yes p r hl)
  obtain ⟨hl1, hl2⟩ := hl
  have hl1' : (r.hits.length : Int) = r.panes.length := by omega
  replace hl1 := Lib.hid hl1
  go_wp2
  go_loopw [5] (fun i wr => ∃ k : Nat, k ≤ r.panes.length ∧ i = .int .i64 k ∧ (∃ y : Later W1, wr = y.w) ∧ (∀ i, i < k → wi (nth r.panes i) 0 ((p.panes.length : Int) - 1) = true ∧ (0 < i → nth r.panes (i - 1) < nth r.panes i) ∧ (nth r.hits i).length = (nth p.opts (nth r.panes i).toNat).length)) (fun i _ => r.panes.length - (intOf i).toNat)
  case atStart => exact ⟨0, Nat.zero_le _, rfl, ⟨x1, rfl⟩, by omega⟩
  case round =>
    obtain ⟨k, hk, rfl, ⟨x, rfl⟩, hno⟩ := hrel
    replace hno := Lib.hid hno
    by_cases hlt : k < r.panes.length
    · have hbad := Lib.hid (@cntOK_bad p r k hlt)
      have hkh : k < r.hits.length := by have := hl1.out; omega
      obtain ⟨b, o, rfl, hb, c0⟩ := hq.out k hlt
      obtain ⟨bh, oh, rfl, hbh, uh, ch0, hU⟩ := hh.out k hkh
      obtain ⟨au, cu, rfl, lu, _⟩ := hU.opened
      cases hA : wi (nth r.panes k) 0 ((p.panes.length : Int) - 1)
      · go_wp2
        refine wp_region_later x (by kernel_rfl) (by kernel_rfl) ?_
        repeat (go_big_quiet_step ((go_at_call 85; exact calls_same (rwithin _ _ _ _))))
        refine wpQuiet_nil ?_
        rintro _ ⟨x, rfl⟩
        go_wp2
        go_ret; exact ⟨ret_bool (hbad.out (.inl hA)).symm, x.down hb1⟩
      · have hA' := wi_iff.1 hA
        have hidx : (nth r.panes k).toNat < p.opts.length := by have := hlen.out; omega
        obtain ⟨bo, oo, rfl, hbo, uo, co0, hO⟩ := hopts.out (nth r.panes k).toNat hidx
        obtain ⟨av, cv, rfl, lv, _⟩ := hO.opened
        by_cases h2 : 0 < k
        · obtain ⟨_, _, he, _, d0⟩ := hq.out (k - 1) (by omega)
          cases he
          cases h3 : decide (nth r.panes k ≤ nth r.panes (k - 1))
          · go_wp2
            refine wp_region_later x (by kernel_rfl) (by kernel_rfl) ?_
            repeat (go_big_quiet_step ((go_at_call 85; exact calls_same (rwithin _ _ _ _))))
            refine wpQuiet_nil ?_
            rintro _ ⟨x, rfl⟩
            go_wp2
            · go_ret; exact ⟨ret_bool (hbad.out (.inr (.inr (ne_bne (by assumption))))).symm, x.down hb1⟩
            · go_roundw
              case rel => exact ⟨k + 1, by omega, by go_num, ⟨x, rfl⟩, all_step hno.out ⟨hA, fun _ => by simpa using h3, eq_bne (by assumption)⟩⟩
              case measure => simp [intOf]; omega
          · go_wp2
            refine wp_region_later x (by kernel_rfl) (by kernel_rfl) ?_
            repeat (go_big_quiet_step ((go_at_call 85; exact calls_same (rwithin _ _ _ _))))
            refine wpQuiet_nil ?_
            rintro _ ⟨x, rfl⟩
            go_wp2
            go_ret; exact ⟨ret_bool (hbad.out (.inr (.inl ⟨h2, by simpa using h3⟩))).symm, x.down hb1⟩
        · go_wp2
          refine wp_region_later x (by kernel_rfl) (by kernel_rfl) ?_
          repeat (go_big_quiet_step ((go_at_call 85; exact calls_same (rwithin _ _ _ _))))
          refine wpQuiet_nil ?_
          rintro _ ⟨x, rfl⟩
          go_wp2
          · go_ret; exact ⟨ret_bool (hbad.out (.inr (.inr (ne_bne (by assumption))))).symm, x.down hb1⟩
          · go_roundw
            case rel => exact ⟨k + 1, by omega, by go_num, ⟨x, rfl⟩, all_step hno.out ⟨hA, fun h => absurd h h2, eq_bne (by assumption)⟩⟩
            case measure => simp [intOf]; omega
    · obtain rfl : k = r.panes.length := by omega
      go_wp2
      go_ret; exact ⟨ret_bool (hyes.out hno.out).symm, x.down hb1⟩
end Go.Proofs.Ytmpkbolabdmkkaa

/- CONTRACTS of the reference's check of a rule of pairs. -/
namespace Go.Proofs.Ytmpkbolabdmkkaa
open Go.RowKit

set_option maxRecDepth 100000 in
set_option maxHeartbeats 1000000 in
theorem rpair {W : World} (x : Later W) (v0 v1 v2 u2 u3 u6 : Value) (p : Prob) (r : Rl) (hp : IsProb W v0 v1 v2 p) (hr : IsRl W u2 u3 u6 r) (hlen : p.opts.length = p.panes.length) :
    Calls Try.prog 88 #[.agg #[v0, v1, v2], .agg #[.int .i64 r.item, .int .i64 r.kind, u2, u3, .int .i64 r.lo, .int .i64 r.hi, u6]] x.w (Ends W (.bool (pairOK p r))) := by
  replace hlen := Lib.hid hlen
  have hno := Lib.hid (@pairOK_no p r)
  have hyes := Lib.hid (@pairOK_iff p r)
  go_enter Try.func88, Try.ntmps88
  go_upto_region 1 with (fail)
  obtain ⟨W1, x1, e1, hb1, ⟨s1, s2⟩, ⟨p0, p1, p2⟩, q0, q1, q2, q3, q4, q5, q6⟩ := enter37 x v0 v1 v2 (.int .i64 r.item) (.int .i64 r.kind) u2 u3 (.int .i64 r.lo) (.int .i64 r.hi) u6 26 87
  rw [e1]; clear e1
  obtain ⟨ap, cp, rfl, lp, hpanes⟩ := (hp.panes.below hb1).opened
  obtain ⟨ao, co, rfl, lo, hopts⟩ := (hp.opts.below hb1).opened
  obtain ⟨aq, cq, rfl, lq, hq⟩ := (hr.panes.below hb1).opened
  obtain ⟨ah, ch, rfl, lh, hh⟩ := (hr.hits.below hb1).opened
  obtain ⟨ak, ck, rfl, lk, hk⟩ := (hr.ok.below hb1).opened
  clear hp hr
  by_cases hl : r.panes.length = 2 ∧ r.hits.length = 0 ∧ r.lo = 0 ∧ r.hi = 0
  case neg =>
    replace hno := Lib.hid (hno.out (fun h => hl h.1))
    by_cases g1 : r.panes.length = 2
    · have g1' : (r.panes.length : Int) = 2 := by omega
      by_cases g2 : r.hits.length = 0
      · have g2' : (r.hits.length : Int) = 0 := by omega
        by_cases g3 : r.lo = 0
        · have g4 : ¬ r.hi = 0 := fun h => hl ⟨g1, g2, g3, h⟩
          clear hl
          go_wp2
          go_ret; exact ⟨ret_bool hno.out.symm, x1.down hb1⟩
        · clear hl
          go_wp2
          go_ret; exact ⟨ret_bool hno.out.symm, x1.down hb1⟩
      · have g2' : 0 < r.hits.length := by omega
        clear hl g2
        go_wp2
        go_ret; exact ⟨ret_bool hno.out.symm, x1.down hb1⟩
    · clear hl
      go_wp2
      go_ret; exact ⟨ret_bool hno.out.symm, x1.down hb1⟩
  have hl' := Lib.hid hl
  obtain ⟨hl1, hl2, hl3, hl4⟩ := hl
  have hl1' : (r.panes.length : Int) = 2 := by omega
  have hl2' : (r.hits.length : Int) = 0 := by omega
  obtain ⟨b, o, rfl, hb, c0⟩ := hq.out 0 (by omega)
  obtain ⟨_, _, he, _, c1⟩ := hq.out 1 (by omega)
  cases he
  simp only [Nat.add_zero] at c0
  go_wp2
  cases hAB : nth r.panes 0 == nth r.panes 1
  case true =>
    refine wp_region_later x1 (by kernel_rfl) (by kernel_rfl) ?_
    repeat (go_big_quiet_step ((go_at_call 85; exact calls_same (rwithin _ _ _ _))))
    refine wpQuiet_nil ?_
    rintro _ ⟨x1, rfl⟩
    go_wp2
    go_ret; exact ⟨ret_bool (hno.out (fun h => h.2.1 (eq_beqI hAB))).symm, x1.down hb1⟩
  cases hA : wi (nth r.panes 0) 0 ((p.panes.length : Int) - 1)
  case false =>
    refine wp_region_later x1 (by kernel_rfl) (by kernel_rfl) ?_
    repeat (go_big_quiet_step ((go_at_call 85; exact calls_same (rwithin _ _ _ _))))
    refine wpQuiet_nil ?_
    rintro _ ⟨x1, rfl⟩
    go_wp2
    go_ret; exact ⟨ret_bool (hno.out (fun h => by have := h.2.2.1; rw [hA] at this; cases this)).symm, x1.down hb1⟩
  have hA' := wi_iff.1 hA
  cases hB : wi (nth r.panes 1) 0 ((p.panes.length : Int) - 1)
  case false =>
    refine wp_region_later x1 (by kernel_rfl) (by kernel_rfl) ?_
    repeat (go_big_quiet_step ((go_at_call 85; exact calls_same (rwithin _ _ _ _))))
    refine wpQuiet_nil ?_
    rintro _ ⟨x1, rfl⟩
    go_wp2
    go_ret; exact ⟨ret_bool (hno.out (fun h => by have := h.2.2.2.1; rw [hB] at this; cases this)).symm, x1.down hb1⟩
  have hB' := wi_iff.1 hB
  have i0 : (nth r.panes 0).toNat < p.opts.length := by have := hlen.out; omega
  have i1 : (nth r.panes 1).toNat < p.opts.length := by have := hlen.out; omega
  obtain ⟨bo, oo, rfl, hbo, uo, co0, hO⟩ := hopts.out (nth r.panes 0).toNat i0
  obtain ⟨av, cv, rfl, lv, _⟩ := hO.opened
  obtain ⟨_, _, he, _, uo1, co1, hO1⟩ := hopts.out (nth r.panes 1).toNat i1
  cases he
  obtain ⟨av1, cv1, rfl, lv1, _⟩ := hO1.opened
  refine wp_region_later x1 (by kernel_rfl) (by kernel_rfl) ?_
  repeat (go_big_quiet_step ((go_at_call 85; exact calls_same (rwithin _ _ _ _))))
  refine wpQuiet_nil ?_
  rintro _ ⟨x1, rfl⟩
  go_wp2
  · go_ret; exact ⟨ret_bool (hno.out (fun h => by have := h.2.2.2.2.1; exact ne_bne (by assumption) this)).symm, x1.down hb1⟩
  have hok : Hid (r.ok.length = (nth p.opts (nth r.panes 0).toNat).length) := Lib.hid (eq_bne (by assumption))
  go_loopw [7] (fun i wr => ∃ k : Nat, k ≤ r.ok.length ∧ i = .int .i64 k ∧ (∃ y : Later W1, wr = y.w) ∧ (∀ i, i < k → (nth r.ok i).length = (nth p.opts (nth r.panes 1).toNat).length)) (fun i _ => r.ok.length - (intOf i).toNat)
  case atStart => exact ⟨0, Nat.zero_le _, rfl, ⟨x1, rfl⟩, by omega⟩
  case round =>
    obtain ⟨k, hk', rfl, ⟨x, rfl⟩, hdone⟩ := hrel
    replace hdone := Lib.hid hdone
    by_cases hlt : k < r.ok.length
    · obtain ⟨bk, ok, rfl, hbk, uk, ck0, hU⟩ := hk.out k hlt
      obtain ⟨au, cu, rfl, lu, _⟩ := hU.opened
      go_wp2
      refine wp_region_later x (by kernel_rfl) (by kernel_rfl) ?_
      repeat (go_big_quiet_step (fail))
      refine wpQuiet_nil ?_
      rintro _ ⟨x, rfl⟩
      go_wp2
      · go_ret; exact ⟨ret_bool (hno.out (fun h => by have := h.2.2.2.2.2 k hlt; exact ne_bne (by assumption) this)).symm, x.down hb1⟩
      · go_roundw
        case rel => exact ⟨k + 1, by omega, by go_num, ⟨x, rfl⟩, all_step hdone.out (eq_bne (by assumption))⟩
        case measure => simp [intOf]; omega
    · obtain rfl : k = r.ok.length := by omega
      go_wp2
      go_ret; exact ⟨ret_bool (hyes.out.2 ⟨hl'.out, ne_beqI hAB, hA, hB, hok.out, hdone.out⟩).symm, x.down hb1⟩
end Go.Proofs.Ytmpkbolabdmkkaa

/- CONTRACTS of the reference's Items and Valid. -/
namespace Go.Proofs.Ytmpkbolabdmkkaa
open Go.RowKit

theorem itemsTo_yes {l : List Rl} {k : Nat} (h : k = 0 ∨ (nth l k).item ≠ (nth l (k - 1)).item) : itemsTo l (k + 1) = itemsTo l k ++ [(nth l k).item] := by
  show (if _ then _ else _) = _; rw [if_pos h]
theorem itemsTo_no {l : List Rl} {k : Nat} (h : ¬ (k = 0 ∨ (nth l k).item ≠ (nth l (k - 1)).item)) : itemsTo l (k + 1) = itemsTo l k := by
  show (if _ then _ else _) = _; rw [if_neg h]

set_option maxRecDepth 100000 in
set_option maxHeartbeats 1000000 in
theorem rItems {W : World} (x : Later W) (v0 v1 v2 : Value) (p : Prob) (hp : IsProb W v0 v1 v2 p) :
    Calls Try.prog 26 #[.agg #[v0, v1, v2]] x.w (EndsInts W (items p)) := by
  obtain ⟨i0, hi, hz0, hz1, hz2⟩ := info_parts Try.info3
  go_enter Try.func26, Try.ntmps26
  go_upto_region 1 with (fail)
  obtain ⟨W1, x1, e1, hb1, s1, p0, p1, p2⟩ := enter3 x v0 v1 v2 26
  rw [e1]; clear e1
  obtain ⟨ar, cr, rfl, lr, hr⟩ := (hp.rules.below hb1).opened
  clear hp
  go_wp2
  go_loopw [3, 4] (fun v i wr => ∃ k : Nat, k ≤ p.rules.length ∧ i = .int .i64 k ∧ (∃ y : Later W1, wr = y.w ∧ y.w.ownsRow W1.heap.size 3 1 v (itemsTo p.rules k).length ((itemsTo p.rules k).map (Value.int .i64)))) (fun _ i _ => p.rules.length - (intOf i).toNat)
  case atStart => exact ⟨0, Nat.zero_le _, rfl, ⟨x1, rfl, World.ownsRow_nil _ _ _ _⟩⟩
  case round =>
    obtain ⟨k, hk, rfl, ⟨x, rfl, hown⟩⟩ := hrel
    have hle := itemsTo_len p.rules k
    by_cases hlt : k < p.rules.length
    · obtain ⟨b, o, rfl, hb, u2, u3, u6, c0, c1, c2, c3, c4, c5, c6, _⟩ := hr.out k hlt
      by_cases h0 : k = 0
      · subst h0
        have HS := Lib.hid (@itemsTo_yes p.rules 0 (.inl rfl))
        simp only [Nat.zero_mul, Nat.add_zero] at c0
        go_wp2
        refine wp_region_since x (by kernel_rfl) (by kernel_rfl) ?_
        repeat (go_big_quiet_step (fail))
        refine wpQuiet_nil ?_
        rintro _ ⟨⟨y, hy⟩, rfl⟩
        replace hown := owns_later hown hy
        go_wp2_with (at_builtin; refine wpList_app1 y 22 3 _ 8 Try.info3 rfl Try.underlying22 rfl _ _ rfl _ _ _ (by rfl) hown _ (by rfl) (by rfl) (by omega) (by omega) ?_; intro v' x hown' hgr)
        go_roundw
        case rel => exact ⟨1, by omega, rfl, ⟨x, rfl, owns_step hown' HS.out⟩⟩
        case measure => simp [intOf]; omega
      · have h0' : 0 < k := by omega
        have hk0 : ((k : Int) == 0) = false := by simp; omega
        obtain ⟨_, _, he, _, _, _, _, d0, _, _, _, _, _, _, _⟩ := hr.out (k - 1) (by omega)
        cases he
        have HS := Lib.hid (@itemsTo_yes p.rules k)
        have HN := Lib.hid (@itemsTo_no p.rules k)
        go_wp2
        refine wp_region_since x (by kernel_rfl) (by kernel_rfl) ?_
        repeat (go_big_quiet_step (fail))
        refine wpQuiet_nil ?_
        rintro _ ⟨⟨y, hy⟩, rfl⟩
        replace hown := owns_later hown hy
        go_wp2_with (at_builtin; refine wpList_app1 y 22 3 _ 8 Try.info3 rfl Try.underlying22 rfl _ _ rfl _ _ _ (by rfl) hown _ (by rfl) (by rfl) (by omega) (by omega) ?_; intro v' x hown' hgr)
        · go_roundw
          case rel => exact ⟨k + 1, by omega, by go_num, ⟨x, rfl, owns_step hown' (HS.out (.inr (ne_bneI (by assumption))))⟩⟩
          case measure => simp [intOf]; omega
        · go_roundw
          case rel => exact ⟨k + 1, by omega, by go_num, ⟨y, rfl, by rw [HN.out (fun h => h.elim h0 (fun h' => h' (eq_bneI (by assumption))))]; exact hown⟩⟩
          case measure => simp [intOf]; omega
    · obtain rfl : k = p.rules.length := by omega
      go_wp2
      go_ret
      obtain ⟨z, hz⟩ := x.down hb1
      exact ⟨_, rfl, z, hz, hz ▸ isInts_of_owns hown (by omega)⟩
end Go.Proofs.Ytmpkbolabdmkkaa

/- CONTRACT of the reference's Valid. -/
namespace Go.Proofs.Ytmpkbolabdmkkaa
open Go.RowKit

set_option maxRecDepth 100000 in
set_option maxHeartbeats 4000000 in
theorem rValid {W : World} (x : Later W) (v0 v1 v2 : Value) (p : Prob) (hp : IsProb W v0 v1 v2 p) :
    Calls Try.prog 27 #[.agg #[v0, v1, v2]] x.w (Ends W (.bool (validP p))) := by
  go_enter Try.func27, Try.ntmps27
  go_upto_region 1 with (fail)
  obtain ⟨W1, x1, e1, hb1, s1, p0, p1, p2⟩ := enter3 x v0 v1 v2 26
  rw [e1]; clear e1
  replace hp := hp.below hb1
  have HP := Lib.hid hp
  obtain ⟨ap, cp, rfl, lp, hpanes⟩ := hp.panes.opened
  obtain ⟨ao, co, rfl, lo, hopts⟩ := hp.opts.opened
  obtain ⟨ar, cr, rfl, lr, hr⟩ := hp.rules.opened
  clear hp
  by_cases hl : p.opts.length = p.panes.length ∧ p.rules.length ≤ 256
  case neg =>
    have hno := Lib.hid (valid_no1 hl)
    by_cases g1 : p.opts.length = p.panes.length
    · have g1' : (p.opts.length : Int) = p.panes.length := by omega
      have g2 : 256 < p.rules.length := by omega
      replace g1 := Lib.hid g1
      clear hl
      by_cases g3 : 64 < p.panes.length
      all_goals
        go_wp2
        go_ret; exact ⟨ret_bool hno.out.symm, x1.down hb1⟩
    · clear hl
      go_wp2
      all_goals (go_ret; exact ⟨ret_bool hno.out.symm, x1.down hb1⟩)
  obtain ⟨hl1, hl2⟩ := hl
  have hl1' : (p.opts.length : Int) = p.panes.length := by omega
  replace hl1 := Lib.hid hl1
  by_cases h64 : p.panes.length ≤ 64
  case neg =>
    have hno : Hid (validP p = false) := Lib.hid (by
      rw [← Bool.not_eq_true]; exact fun h => h64 (valid_panes (validP_iff.1 h).2.1))
    go_wp2
    go_ret; exact ⟨ret_bool hno.out.symm, x1.down hb1⟩
  go_wp2
  go_loopw [3] (fun i wr => ∃ k : Nat, k ≤ p.panes.length ∧ i = .int .i64 k ∧ (∃ y : Later W1, wr = y.w) ∧ (∀ i, i < k → paneOK p i = true)) (fun i _ => p.panes.length - (intOf i).toNat)
  case atStart => exact ⟨0, Nat.zero_le _, rfl, ⟨x1, rfl⟩, by omega⟩
  case round =>
    obtain ⟨k, hk, rfl, ⟨x, rfl⟩, hpan⟩ := hrel
    replace hpan := Lib.hid hpan
    by_cases hlt : k < p.panes.length
    · have hbad := Lib.hid (@valid_no2 p k hlt)
      have hko : k < p.opts.length := by have := hl1.out; omega
      obtain ⟨b, o, rfl, hb, c0⟩ := hpanes.out k hlt
      obtain ⟨bo, oo, rfl, hbo, uo, co0, hO⟩ := hopts.out k hko
      cases hA : wi (nth p.panes k) 1 64
      · go_wp2
        refine wp_region_later x (by kernel_rfl) (by kernel_rfl) ?_
        repeat (go_big_quiet_step ((go_at_call 85; exact calls_same (rwithin _ _ _ _))))
        refine wpQuiet_nil ?_
        rintro _ ⟨x, rfl⟩
        go_wp2
        go_ret; exact ⟨ret_bool (hbad.out (.inl hA)).symm, x.down hb1⟩
      by_cases h2 : 0 < k
      · obtain ⟨_, _, he, _, d0⟩ := hpanes.out (k - 1) (by omega)
        cases he
        cases h3 : decide (nth p.panes k ≤ nth p.panes (k - 1))
        · go_wp2
          refine wp_region_later x (by kernel_rfl) (by kernel_rfl) ?_
          repeat (go_big_quiet_step ((first | (go_at_call 85; exact calls_same (rwithin _ _ _ _)) | (go_at_call 86; exact roptions _ _ _ hO))))
          refine wpQuiet_nil ?_
          rintro _ ⟨x, rfl⟩
          cases h4 : optsOK (nth p.opts k) <;> go_wp2
          · go_ret; exact ⟨ret_bool (hbad.out (.inr (.inr h4))).symm, x.down hb1⟩
          · go_roundw
            case rel => exact ⟨k + 1, by omega, by go_num, ⟨x, rfl⟩, all_step hpan.out (paneOK_iff.2 ⟨hA, fun _ => by simpa using h3, h4⟩)⟩
            case measure => simp [intOf]; omega
        · go_wp2
          refine wp_region_later x (by kernel_rfl) (by kernel_rfl) ?_
          repeat (go_big_quiet_step ((first | (go_at_call 85; exact calls_same (rwithin _ _ _ _)) | (go_at_call 86; exact roptions _ _ _ hO))))
          refine wpQuiet_nil ?_
          rintro _ ⟨x, rfl⟩
          go_wp2
          go_ret; exact ⟨ret_bool (hbad.out (.inr (.inl ⟨h2, by simpa using h3⟩))).symm, x.down hb1⟩
      · go_wp2
        refine wp_region_later x (by kernel_rfl) (by kernel_rfl) ?_
        repeat (go_big_quiet_step ((first | (go_at_call 85; exact calls_same (rwithin _ _ _ _)) | (go_at_call 86; exact roptions _ _ _ hO))))
        refine wpQuiet_nil ?_
        rintro _ ⟨x, rfl⟩
        cases h4 : optsOK (nth p.opts k) <;> go_wp2
        · go_ret; exact ⟨ret_bool (hbad.out (.inr (.inr h4))).symm, x.down hb1⟩
        · go_roundw
          case rel => exact ⟨k + 1, by omega, by go_num, ⟨x, rfl⟩, all_step hpan.out (paneOK_iff.2 ⟨hA, fun h => absurd h h2, h4⟩)⟩
          case measure => simp [intOf]; omega
    · obtain rfl : k = p.panes.length := by omega
      go_wp2
      go_loopw [4, 5] (fun i _ wr => ∃ k : Nat, k ≤ p.rules.length ∧ i = .int .i64 k ∧ (∃ y : Later W1, wr = y.w) ∧ (∀ i, i < k → ruleAtOK p i = true)) (fun i _ _ => p.rules.length - (intOf i).toNat)
      case atStart => exact ⟨0, Nat.zero_le _, rfl, ⟨x, rfl⟩, by omega⟩
      case round =>
        obtain ⟨k, hk, rfl, ⟨x, rfl⟩, hrul⟩ := hrel
        replace hrul := Lib.hid hrul
        by_cases hlt : k < p.rules.length
        · have hbad := Lib.hid (@valid_no3 p k hlt)
          obtain ⟨b, o, rfl, hb, u2, u3, u6, c0, c1, c2, c3, c4, c5, c6, hR⟩ := hr.out k hlt
          have HR := Lib.hid hR
          obtain ⟨aq, cq, rfl, _, _⟩ := hR.panes.opened
          obtain ⟨ah, ch, rfl, _, _⟩ := hR.hits.opened
          obtain ⟨ak, ck, rfl, _, _⟩ := hR.ok.opened
          clear hR
          go_upto_region 12 with (fail)
          obtain ⟨W2, x2, e2, hb2, s2, q0, q1, q2, q3, q4, q5, q6⟩ := enter7 x (.int .i64 (nth p.rules k).item) (.int .i64 (nth p.rules k).kind) (.slice aq (nth p.rules k).panes.length cq) (.slice ah (nth p.rules k).hits.length ch) (.int .i64 (nth p.rules k).lo) (.int .i64 (nth p.rules k).hi) (.slice ak (nth p.rules k).ok.length ck) 87
          rw [e2]; clear e2
          replace p0 := Later.cells hb2 p0
          replace p1 := Later.cells hb2 p1
          replace p2 := Later.cells hb2 p2
          replace c0 := Later.cells hb2 c0
          replace hb := Later.sizes hb2 hb
          replace s1 := Later.sizes hb2 s1
          clear c1 c2 c3 c4 c5 c6
          cases hA : wi (nth p.rules k).item 1 65535
          · refine wp_region_later x2 (by kernel_rfl) (by kernel_rfl) ?_
            repeat (go_big_quiet_step ((go_at_call 85; exact calls_same (rwithin _ _ _ _))))
            refine wpQuiet_nil ?_
            rintro _ ⟨x2, rfl⟩
            go_wp2
            go_ret; exact ⟨ret_bool (hbad.out (.inl hA)).symm, x2.down (hb1.trans (hb2.mono hb1.size))⟩
          have hcase : (0 < k ∧ decide ((nth p.rules k).item < (nth p.rules (k - 1)).item) = true) ∨ (0 < k → (nth p.rules (k - 1)).item ≤ (nth p.rules k).item) := by
            by_cases h2 : 0 < k
            · cases h3 : decide ((nth p.rules k).item < (nth p.rules (k - 1)).item)
              · exact .inr fun _ => by simpa using h3
              · exact .inl ⟨h2, rfl⟩
            · exact .inr fun h => absurd h h2
          have hdown : ∀ y : Later W2, ∃ z : Later W, y.w = z.w := fun y => y.down (hb1.trans (hb2.mono hb1.size))
          replace hdown := Lib.hid hdown
          have hup : ∀ y : Later W2, ∃ z : Later W1, y.w = z.w := fun y => y.down hb2
          replace hup := Lib.hid hup
          have hp2 := Lib.hid (HP.out.below hb2)
          have hr2 := Lib.hid (HR.out.below hb2)
          rcases hcase with ⟨h2, h3⟩ | h3
          · obtain ⟨_, _, he, _, _, _, _, d0, _, _, _, _, _, _, _⟩ := hr.out (k - 1) (by omega)
            cases he
            replace d0 := Later.cells hb2 d0
            refine wp_region_later x2 (by kernel_rfl) (by kernel_rfl) ?_
            repeat (go_big_quiet_step ((go_at_call 85; exact calls_same (rwithin _ _ _ _))))
            refine wpQuiet_nil ?_
            rintro _ ⟨x2, rfl⟩
            go_wp2
            go_ret; exact ⟨ret_bool (hbad.out (.inr (.inl ⟨h2, by simpa using h3⟩))).symm, hdown.out x2⟩
          · have hgood : ∀ (x2 : Later W2), ruleOK p (nth p.rules k) = true → ∃ k_1 : Nat, k_1 ≤ p.rules.length ∧ Value.int .i64 ((k : Int) + 1) = .int .i64 k_1 ∧ (∃ y : Later W1, x2.w = y.w) ∧ ∀ i, i < k_1 → ruleAtOK p i = true :=
              fun x2 h => ⟨k + 1, by omega, by go_num, hup.out x2, all_step hrul.out (ruleAtOK_iff.2 ⟨hA, h3, h⟩)⟩
            replace hgood := Lib.hid hgood
            replace hbad := Lib.hid (fun h => hbad.out (.inr (.inr h)))
            have hreg : (0 < k ∧ decide ((nth p.rules k).item < (nth p.rules (k - 1)).item) = false) ∨ ¬ 0 < k := by
              by_cases h2 : 0 < k
              · exact .inl ⟨h2, by have := h3 h2; simp; omega⟩
              · exact .inr h2
            clear h3
            rcases hreg with ⟨h2, h3⟩ | h2
            · obtain ⟨_, _, he, _, _, _, _, d0, _, _, _, _, _, _, _⟩ := hr.out (k - 1) (by omega)
              cases he
              replace d0 := Later.cells hb2 d0
              refine wp_region_later x2 (by kernel_rfl) (by kernel_rfl) ?_
              repeat (go_big_quiet_step ((go_at_call 85; exact calls_same (rwithin _ _ _ _))))
              refine wpQuiet_nil ?_
              rintro _ ⟨x2, rfl⟩
              clear d0 h3 c0 h2
              go_upto_region 14 with (fail)
              by_cases g1 : (nth p.rules k).kind = 1
              · have f1 : ((nth p.rules k).kind == 1) = true := by simp [g1]
                have f2 : ((nth p.rules k).kind != 1) = false := by simp [g1]
                have f3 : ((nth p.rules k).kind == 2) = false := by simp [g1]
                have f4 : ((nth p.rules k).kind != 2) = true := by simp [g1]
                replace g1 := Lib.hid g1
                cases hC : cntOK p (nth p.rules k)
                · go_wp2_with (go_at_call 87; refine (rcount x2 _ _ _ _ _ _ p (nth p.rules k) hp2.out hr2.out hl1.out).mono ?_; rintro e w' ⟨rfl, x2, rfl⟩)
                  go_ret; exact ⟨ret_bool (hbad.out (by simp [ruleOK, g1.out, hC])).symm, hdown.out x2⟩
                · go_wp2_with (go_at_call 87; refine (rcount x2 _ _ _ _ _ _ p (nth p.rules k) hp2.out hr2.out hl1.out).mono ?_; rintro e w' ⟨rfl, x2, rfl⟩)
                  go_roundw
                  case rel => exact hgood.out x2 (by simp [ruleOK, g1.out, hC])
                  case measure => simp [intOf]; omega
              · by_cases g2 : (nth p.rules k).kind = 2
                · have f1 : ((nth p.rules k).kind == 1) = false := by simp [g2]
                  have f2 : ((nth p.rules k).kind != 1) = true := by simp [g2]
                  have f3 : ((nth p.rules k).kind == 2) = true := by simp [g2]
                  have f4 : ((nth p.rules k).kind != 2) = false := by simp [g2]
                  clear g1
                  replace g2 := Lib.hid g2
                  cases hC : pairOK p (nth p.rules k)
                  · go_wp2_with (go_at_call 88; refine (rpair x2 _ _ _ _ _ _ p (nth p.rules k) hp2.out hr2.out hl1.out).mono ?_; rintro e w' ⟨rfl, x2, rfl⟩)
                    go_ret; exact ⟨ret_bool (hbad.out (by simp [ruleOK, g2.out, hC])).symm, hdown.out x2⟩
                  · go_wp2_with (go_at_call 88; refine (rpair x2 _ _ _ _ _ _ p (nth p.rules k) hp2.out hr2.out hl1.out).mono ?_; rintro e w' ⟨rfl, x2, rfl⟩)
                    go_roundw
                    case rel => exact hgood.out x2 (by simp [ruleOK, g2.out, hC])
                    case measure => simp [intOf]; omega
                · have f2 : ((nth p.rules k).kind != 1) = true := by simp [g1]
                  have f4 : ((nth p.rules k).kind != 2) = true := by simp [g2]
                  have hq : ruleOK p (nth p.rules k) = false := by simp [ruleOK, g1, g2]
                  replace hq := Lib.hid hq
                  clear g1 g2
                  go_wp2
                  go_ret; exact ⟨ret_bool (hbad.out hq.out).symm, hdown.out x2⟩
            · refine wp_region_later x2 (by kernel_rfl) (by kernel_rfl) ?_
              repeat (go_big_quiet_step ((go_at_call 85; exact calls_same (rwithin _ _ _ _))))
              refine wpQuiet_nil ?_
              rintro _ ⟨x2, rfl⟩
              clear c0 h2
              go_upto_region 14 with (fail)
              by_cases g1 : (nth p.rules k).kind = 1
              · have f1 : ((nth p.rules k).kind == 1) = true := by simp [g1]
                have f2 : ((nth p.rules k).kind != 1) = false := by simp [g1]
                have f3 : ((nth p.rules k).kind == 2) = false := by simp [g1]
                have f4 : ((nth p.rules k).kind != 2) = true := by simp [g1]
                replace g1 := Lib.hid g1
                cases hC : cntOK p (nth p.rules k)
                · go_wp2_with (go_at_call 87; refine (rcount x2 _ _ _ _ _ _ p (nth p.rules k) hp2.out hr2.out hl1.out).mono ?_; rintro e w' ⟨rfl, x2, rfl⟩)
                  go_ret; exact ⟨ret_bool (hbad.out (by simp [ruleOK, g1.out, hC])).symm, hdown.out x2⟩
                · go_wp2_with (go_at_call 87; refine (rcount x2 _ _ _ _ _ _ p (nth p.rules k) hp2.out hr2.out hl1.out).mono ?_; rintro e w' ⟨rfl, x2, rfl⟩)
                  go_roundw
                  case rel => exact hgood.out x2 (by simp [ruleOK, g1.out, hC])
                  case measure => simp [intOf]; omega
              · by_cases g2 : (nth p.rules k).kind = 2
                · have f1 : ((nth p.rules k).kind == 1) = false := by simp [g2]
                  have f2 : ((nth p.rules k).kind != 1) = true := by simp [g2]
                  have f3 : ((nth p.rules k).kind == 2) = true := by simp [g2]
                  have f4 : ((nth p.rules k).kind != 2) = false := by simp [g2]
                  clear g1
                  replace g2 := Lib.hid g2
                  cases hC : pairOK p (nth p.rules k)
                  · go_wp2_with (go_at_call 88; refine (rpair x2 _ _ _ _ _ _ p (nth p.rules k) hp2.out hr2.out hl1.out).mono ?_; rintro e w' ⟨rfl, x2, rfl⟩)
                    go_ret; exact ⟨ret_bool (hbad.out (by simp [ruleOK, g2.out, hC])).symm, hdown.out x2⟩
                  · go_wp2_with (go_at_call 88; refine (rpair x2 _ _ _ _ _ _ p (nth p.rules k) hp2.out hr2.out hl1.out).mono ?_; rintro e w' ⟨rfl, x2, rfl⟩)
                    go_roundw
                    case rel => exact hgood.out x2 (by simp [ruleOK, g2.out, hC])
                    case measure => simp [intOf]; omega
                · have f2 : ((nth p.rules k).kind != 1) = true := by simp [g1]
                  have f4 : ((nth p.rules k).kind != 2) = true := by simp [g2]
                  have hq : ruleOK p (nth p.rules k) = false := by simp [ruleOK, g1, g2]
                  replace hq := Lib.hid hq
                  clear g1 g2
                  go_wp2
                  go_ret; exact ⟨ret_bool (hbad.out hq.out).symm, hdown.out x2⟩
        · obtain rfl : k = p.rules.length := by omega
          have hend := Lib.hid (valid_end ⟨hl1.out, hl2⟩ hpan.out hrul.out)
          go_wp2_with (go_at_call 26; refine (rItems x _ _ _ p HP.out).mono ?_; rintro e w' ⟨v, rfl, y, rfl, hI⟩; obtain ⟨a, c, rfl, _, _⟩ := hI)
          go_ret; exact ⟨ret_bool (by rw [hend.out, decide_eq_decide]; omega), y.down hb1⟩
end Go.Proofs.Ytmpkbolabdmkkaa
