/- CONTRACTS of the reference's sound, space, filling. -/
import Derived.Test.YtmpkbolabdmkkaaZa
import Derived.Test.YtmpkbolabdmkkaaZb
namespace Go.Proofs.Ytmpkbolabdmkkaa
open Go.RowKit

set_option maxRecDepth 100000 in
set_option maxHeartbeats 1000000 in
theorem rsound {W : World} (x : Later W) (v0 v1 v2 vf : Value) (p : Prob) (f : List Int) (hp : IsProb W v0 v1 v2 p) (hf : IsInts W vf f) (hlen : f.length = p.opts.length) (hfill : ∀ i, i < f.length → 0 ≤ nth f i ∧ nth f i < (nth p.opts i).length) :
    Calls Try.prog 93 #[.agg #[v0, v1, v2], vf] x.w (Ends W (.bool (soundB p f))) := by
  replace hlen := Lib.hid hlen
  replace hfill := Lib.hid hfill
  have hbad := Lib.hid (fun i k => @soundB_bad p f i k)
  have hyes := Lib.hid (@soundB_yes p f)
  go_enter Try.func93, Try.ntmps93
  go_upto_region 1 with (fail)
  obtain ⟨W1, x1, e1, hb1, s1, p0, p1, p2⟩ := enter3 x v0 v1 v2 26
  rw [e1]; clear e1
  obtain ⟨ao, co, rfl, lo, hopts⟩ := (hp.opts.below hb1).opened
  obtain ⟨af, cf, rfl, lf, hfs⟩ := (hf.below hb1).opened
  clear hp hf
  go_wp2
  go_loopw [5] (fun i wr => ∃ k : Nat, k ≤ f.length ∧ i = .int .i64 k ∧ (∃ y : Later W1, wr = y.w) ∧ (∀ i, i < k → ∀ k, k < i → ¬ (0 < pieceAt p f i ∧ pieceAt p f i = pieceAt p f k))) (fun i _ => f.length - (intOf i).toNat)
  case atStart => exact ⟨0, Nat.zero_le _, rfl, ⟨x1, rfl⟩, by omega⟩
  case round =>
    obtain ⟨k, hk, rfl, ⟨x, rfl⟩, hout⟩ := hrel
    replace hout := Lib.hid hout
    by_cases hlt : k < f.length
    · have hko : k < p.opts.length := by have := hlen.out; omega
      have hfk := hfill.out k hlt
      obtain ⟨bf, of, rfl, hbf, c0⟩ := hfs.out k hlt
      obtain ⟨bo, oo, rfl, hbo, uo, co0, hO⟩ := hopts.out k hko
      obtain ⟨av, cv, rfl, lv, hV⟩ := hO.opened
      obtain ⟨bv, ov, rfl, hbv, d0, _, _, _⟩ := hV.out (nth f k).toNat (by omega)
      have e0 : pieceAt p f k = (nth (nth p.opts k) (nth f k).toNat).piece := rfl
      rw [← e0] at d0
      clear hV e0
      go_wp2
      go_loopw [6, 7] (fun i _ wr => ∃ m : Nat, m ≤ k ∧ i = .int .i64 m ∧ (∃ y : Later W1, wr = y.w) ∧ (∀ m', m' < m → ¬ (0 < pieceAt p f k ∧ pieceAt p f k = pieceAt p f m'))) (fun i _ _ => k - (intOf i).toNat)
      case atStart => exact ⟨0, Nat.zero_le _, rfl, ⟨x, rfl⟩, by omega⟩
      case round =>
        obtain ⟨m, hm, rfl, ⟨x, rfl⟩, hin⟩ := hrel
        replace hin := Lib.hid hin
        by_cases hlt' : m < k
        · have hmo : m < p.opts.length := by have := hlen.out; omega
          have hmf : m < f.length := by omega
          have hfm := hfill.out m hmf
          obtain ⟨_, _, he, _, c1⟩ := hfs.out m hmf
          cases he
          obtain ⟨_, _, he, _, u1, co1, hO1⟩ := hopts.out m hmo
          cases he
          obtain ⟨av1, cv1, rfl, lv1, hV1⟩ := hO1.opened
          obtain ⟨bv1, ov1, rfl, hbv1, d1, _, _, _⟩ := hV1.out (nth f m).toNat (by omega)
          have e1 : pieceAt p f m = (nth (nth p.opts m) (nth f m).toNat).piece := rfl
          rw [← e1] at d1
          clear hV1 e1
          go_wp2
          refine wp_region_later x (by kernel_rfl) (by kernel_rfl) ?_
          repeat (go_big_quiet_step (fail))
          refine wpQuiet_nil ?_
          rintro _ ⟨x, rfl⟩
          cases hA : decide (0 < pieceAt p f k)
          · go_wp2
            refine wp_region_later x (by kernel_rfl) (by kernel_rfl) ?_
            repeat (go_big_quiet_step (fail))
            refine wpQuiet_nil ?_
            rintro _ ⟨x, rfl⟩
            go_wp2
            go_roundw
            case rel => exact ⟨m + 1, by omega, by go_num, ⟨x, rfl⟩, all_step hin.out (fun h => by simp [h.1] at hA)⟩
            case measure => simp [intOf]; omega
          · go_wp2
            refine wp_region_later x (by kernel_rfl) (by kernel_rfl) ?_
            repeat (go_big_quiet_step (fail))
            refine wpQuiet_nil ?_
            rintro _ ⟨x, rfl⟩
            go_wp2
            · go_ret; exact ⟨ret_bool (hbad.out _ _ hlt hlt' (by simpa using hA) (eq_beqI (by assumption))).symm, x.down hb1⟩
            · go_roundw
              case rel => exact ⟨m + 1, by omega, by go_num, ⟨x, rfl⟩, all_step hin.out (fun h => ne_beqI (by assumption) h.2)⟩
              case measure => simp [intOf]; omega
        · obtain rfl : m = k := by omega
          go_wp2
          go_roundw
          case rel => exact ⟨m + 1, by omega, by go_num, ⟨x, rfl⟩, all_step hout.out hin.out⟩
          case measure => simp [intOf]; omega
    · obtain rfl : k = f.length := by omega
      go_wp2
      go_ret; exact ⟨ret_bool (hyes.out hout.out).symm, x.down hb1⟩

theorem rspaceTo_bd {os : List (List Opt)} (h : ∀ i, i < os.length → (nth os i).length ≤ 300) : ∀ k, k ≤ os.length → 0 ≤ rspaceTo os k ∧ rspaceTo os k ≤ 337769972052787200
  | 0, _ => ⟨by simp [rspaceTo], by simp [rspaceTo]⟩
  | k + 1, hk => by
    have := rspaceTo_bd h k (by omega)
    have h1 := h k (by omega)
    unfold rspaceTo
    split
    · rename_i h2
      refine ⟨Int.mul_nonneg this.1 (by omega), ?_⟩
      have := Int.mul_le_mul h2 (show ((nth os k).length : Int) ≤ 300 by omega) (by omega) (by decide)
      omega
    · exact this

set_option maxRecDepth 100000 in
set_option maxHeartbeats 1000000 in
theorem rspace_walk {W : World} (x : Later W) (v0 v1 v2 : Value) (p : Prob) (hp : IsProb W v0 v1 v2 p) (h300 : ∀ i, i < p.opts.length → (nth p.opts i).length ≤ 300) :
    Calls Try.prog 70 #[.agg #[v0, v1, v2]] x.w (Ends W (.int .i64 (rspace p))) := by
  have hbd := Lib.hid (rspaceTo_bd h300)
  clear h300
  go_enter Try.func70, Try.ntmps70
  go_upto_region 1 with (fail)
  obtain ⟨W1, x1, e1, hb1, s1, p0, p1, p2⟩ := enter3 x v0 v1 v2 26
  rw [e1]; clear e1
  obtain ⟨ao, co, rfl, lo, hopts⟩ := (hp.opts.below hb1).opened
  clear hp
  go_wp2
  go_loopw [3, 4] (fun n i wr => ∃ k : Nat, k ≤ p.opts.length ∧ i = .int .i64 k ∧ n = .int .i64 (rspaceTo p.opts k) ∧ (∃ y : Later W1, wr = y.w)) (fun _ i _ => p.opts.length - (intOf i).toNat)
  case atStart => exact ⟨0, Nat.zero_le _, rfl, rfl, ⟨x1, rfl⟩⟩
  case round =>
    obtain ⟨k, hk, rfl, rfl, ⟨x, rfl⟩⟩ := hrel
    have hbk := hbd.out k hk
    by_cases hlt : k < p.opts.length
    · obtain ⟨bo, oo, rfl, hbo, uo, co0, hO⟩ := hopts.out k hlt
      obtain ⟨av, cv, rfl, lv, _⟩ := hO.opened
      have hb' := hbd.out (k + 1) hlt
      have HS : Hid (rspaceTo p.opts (k + 1) = if rspaceTo p.opts k ≤ 1125899906842624 then rspaceTo p.opts k * (nth p.opts k).length else rspaceTo p.opts k) := Lib.hid rfl
      cases hA : decide (rspaceTo p.opts k ≤ 1125899906842624)
      · clear hb'
        go_wp2
        go_roundw
        case rel => exact ⟨k + 1, by omega, by go_num, by rw [HS.out, if_neg (by simpa using hA)], ⟨x, rfl⟩⟩
        case measure => simp [intOf]; omega
      · have hm : rspaceTo p.opts k * (nth p.opts k).length ≤ 337769972052787200 ∧ 0 ≤ rspaceTo p.opts k * (nth p.opts k).length := by
          rw [HS.out, if_pos (by simpa using hA)] at hb'; exact ⟨hb'.2, hb'.1⟩
        clear hb'
        go_wp2
        go_roundw
        case rel => exact ⟨k + 1, by omega, by go_num, by rw [HS.out, if_pos (by simpa using hA)], ⟨x, rfl⟩⟩
        case measure => simp [intOf]; omega
    · obtain rfl : k = p.opts.length := by omega
      go_wp2
      go_ret; exact ⟨ret_int rfl, x.down hb1⟩

set_option maxRecDepth 100000 in
set_option maxHeartbeats 1000000 in
theorem rfilling {W : World} (x : Later W) (v0 v1 v2 vf : Value) (p : Prob) (f : List Int) (hp : IsProb W v0 v1 v2 p) (hf : IsInts W vf f) (hlen : p.opts.length = p.panes.length) :
    Calls Try.prog 136 #[.agg #[v0, v1, v2], vf] x.w (Ends W (.bool (fillB p f))) := by
  replace hlen := Lib.hid hlen
  have hno := Lib.hid (@fillB_no p f)
  have hbad := Lib.hid (fun i => @fillB_bad p f i)
  have hyes := Lib.hid (@fillB_iff p f)
  go_enter Try.func136, Try.ntmps136
  go_upto_region 1 with (fail)
  obtain ⟨W1, x1, e1, hb1, s1, p0, p1, p2⟩ := enter3 x v0 v1 v2 26
  rw [e1]; clear e1
  obtain ⟨ap, cp, rfl, lp, hpanes⟩ := (hp.panes.below hb1).opened
  obtain ⟨ao, co, rfl, lo, hopts⟩ := (hp.opts.below hb1).opened
  obtain ⟨af, cf, rfl, lf, hfs⟩ := (hf.below hb1).opened
  clear hp hf
  by_cases hl : f.length = p.panes.length
  case neg =>
    replace hno := Lib.hid (hno.out hl)
    go_wp2
    all_goals (go_ret; exact ⟨ret_bool hno.out.symm, x1.down hb1⟩)
  have hl' : (f.length : Int) = p.panes.length := by omega
  replace hl := Lib.hid hl
  go_wp2
  go_loopw [5] (fun i wr => ∃ k : Nat, k ≤ f.length ∧ i = .int .i64 k ∧ (∃ y : Later W1, wr = y.w) ∧ (∀ i, i < k → wi (nth f i) 0 (((nth p.opts i).length : Int) - 1) = true)) (fun i _ => f.length - (intOf i).toNat)
  case atStart => exact ⟨0, Nat.zero_le _, rfl, ⟨x1, rfl⟩, by omega⟩
  case round =>
    obtain ⟨k, hk, rfl, ⟨x, rfl⟩, hin⟩ := hrel
    replace hin := Lib.hid hin
    by_cases hlt : k < f.length
    · have hko : k < p.opts.length := by have := hlen.out; have := hl.out; omega
      obtain ⟨bf, of, rfl, hbf, c0⟩ := hfs.out k hlt
      obtain ⟨bo, oo, rfl, hbo, uo, co0, hO⟩ := hopts.out k hko
      obtain ⟨av, cv, rfl, lv, _⟩ := hO.opened
      cases hA : wi (nth f k) 0 (((nth p.opts k).length : Int) - 1)
      · go_wp2
        refine wp_region_later x (by kernel_rfl) (by kernel_rfl) ?_
        repeat (go_big_quiet_step ((go_at_call 85; exact calls_same (rwithin _ _ _ _))))
        refine wpQuiet_nil ?_
        rintro _ ⟨x, rfl⟩
        go_wp2
        go_ret; exact ⟨ret_bool (hbad.out _ hlt hA).symm, x.down hb1⟩
      · go_wp2
        refine wp_region_later x (by kernel_rfl) (by kernel_rfl) ?_
        repeat (go_big_quiet_step ((go_at_call 85; exact calls_same (rwithin _ _ _ _))))
        refine wpQuiet_nil ?_
        rintro _ ⟨x, rfl⟩
        go_wp2
        go_roundw
        case rel => exact ⟨k + 1, by omega, by go_num, ⟨x, rfl⟩, all_step hin.out hA⟩
        case measure => simp [intOf]; omega
    · obtain rfl : k = f.length := by omega
      go_wp2
      go_ret; exact ⟨ret_bool (hyes.out.2 ⟨hl.out, hin.out⟩).symm, x.down hb1⟩
end Go.Proofs.Ytmpkbolabdmkkaa

/- CONTRACT of the reference's keeps. -/
namespace Go.Proofs.Ytmpkbolabdmkkaa
open Go.RowKit

/-- what a lookup of a filling by a rule leans on -/
structure Fits (p : Prob) (r : Rl) (f : List Int) : Prop where
  rule : ruleOK p r = true
  fill : ∀ i, i < f.length → 0 ≤ nth f i ∧ nth f i < (nth p.opts i).length
  len : f.length = p.panes.length

theorem fits_of {p : Prob} {f : List Int} (hv : validP p = true) (hf : fillB p f = true) {i : Nat} (hi : i < p.rules.length) : Fits p (nth p.rules i) f :=
  ⟨valid_rule hv hi, fun _ h => fill_at hf h, (fillB_iff.1 hf).1⟩

/-- the first pane of a pair, as it is looked up -/
theorem Fits.pair {p : Prob} {r : Rl} {f : List Int} (h : Fits p r f) (hk : r.kind = 2) : r.panes.length = 2 ∧ (0 ≤ nth r.panes 0 ∧ (nth r.panes 0).toNat < f.length) ∧ (0 ≤ nth r.panes 1 ∧ (nth r.panes 1).toNat < f.length) ∧
    (0 ≤ chosenAt r f 0 ∧ (chosenAt r f 0).toNat < r.ok.length) ∧ (0 ≤ chosenAt r f 1 ∧ (chosenAt r f 1).toNat < (nth r.ok (chosenAt r f 0).toNat).length) := by
  have hp : pairOK p r = true := by
    rcases ruleOK_iff.1 h.rule with h' | h'
    · omega
    · exact h'.2
  obtain ⟨h1, _, _, _, h5, h6, _, h8, h9⟩ := pair_at hp
  have hl := h.len
  have ha : (nth r.panes 0).toNat < f.length := by omega
  have hb : (nth r.panes 1).toNat < f.length := by omega
  have fa := h.fill _ ha
  have fb := h.fill _ hb
  have e0 : chosenAt r f 0 = nth f (nth r.panes 0).toNat := rfl
  have e1 : chosenAt r f 1 = nth f (nth r.panes 1).toNat := rfl
  have g0 : (chosenAt r f 0).toNat < r.ok.length := by rw [e0, h8]; omega
  exact ⟨h1, ⟨h5.1, ha⟩, ⟨h6.1, hb⟩, ⟨by rw [e0]; exact fa.1, g0⟩, ⟨by rw [e1]; exact fb.1, by rw [h9 _ g0, e1]; omega⟩⟩
theorem Fits.cnt {p : Prob} {r : Rl} {f : List Int} (h : Fits p r f) (hk : ¬ r.kind = 2) : r.hits.length = r.panes.length ∧ ∀ i, i < r.panes.length → (0 ≤ nth r.panes i ∧ (nth r.panes i).toNat < f.length) ∧ 0 ≤ chosenAt r f i ∧ (chosenAt r f i).toNat < (nth r.hits i).length := by
  have hp : cntOK p r = true := by
    rcases ruleOK_iff.1 h.rule with h' | h'
    · exact h'.2
    · omega
  obtain ⟨h1, _, h3⟩ := cnt_at hp
  refine ⟨h1, fun i hi => ?_⟩
  obtain ⟨a, b, _, d⟩ := h3 i hi
  have hl := h.len
  have ha : (nth r.panes i).toNat < f.length := by omega
  have fa := h.fill _ ha
  have e0 : chosenAt r f i = nth f (nth r.panes i).toNat := rfl
  exact ⟨⟨a, ha⟩, by rw [e0]; exact fa.1, by rw [e0, d]; omega⟩
theorem keepsB_pair {r : Rl} {f : List Int} (h : r.kind = 2) : keepsB r f = nth (nth r.ok (chosenAt r f 0).toNat) (chosenAt r f 1).toNat := by unfold keepsB; rw [if_pos h]
theorem keepsB_cnt {r : Rl} {f : List Int} (h : ¬ r.kind = 2) : keepsB r f = wi (hitsTo r f r.panes.length) r.lo r.hi := by unfold keepsB; rw [if_neg h]

set_option maxRecDepth 100000 in
set_option maxHeartbeats 1000000 in
theorem rkeeps {W : World} (x : Later W) (u2 u3 u6 vf : Value) (p : Prob) (r : Rl) (f : List Int) (hr : IsRl W u2 u3 u6 r) (hf : IsInts W vf f) (hfit : Fits p r f) :
    Calls Try.prog 98 #[.agg #[.int .i64 r.item, .int .i64 r.kind, u2, u3, .int .i64 r.lo, .int .i64 r.hi, u6], vf] x.w (Ends W (.bool (keepsB r f))) := by
  go_enter Try.func98, Try.ntmps98
  go_upto_region 1 with (fail)
  obtain ⟨W1, x1, e1, hb1, s1, p0, p1, p2, p3, p4, p5, p6⟩ := enter7 x (.int .i64 r.item) (.int .i64 r.kind) u2 u3 (.int .i64 r.lo) (.int .i64 r.hi) u6 87
  rw [e1]; clear e1
  obtain ⟨aq, cq, rfl, lq, hq⟩ := (hr.panes.below hb1).opened
  obtain ⟨ah, ch, rfl, lh, hh⟩ := (hr.hits.below hb1).opened
  obtain ⟨ak, ck, rfl, lk, hk⟩ := (hr.ok.below hb1).opened
  obtain ⟨af, cf, rfl, lf, hfs⟩ := (hf.below hb1).opened
  clear hr hf
  by_cases hkind : r.kind = 2
  · have hkp := Lib.hid (@keepsB_pair r f hkind)
    obtain ⟨h1, ⟨h2, h2'⟩, ⟨h3, h3'⟩, ⟨h4, h4'⟩, ⟨h5, h5'⟩⟩ := hfit.pair hkind
    have hk2 : (r.kind == 2) = true := by simp [hkind]
    have h1' : 1 < r.panes.length := by omega
    replace h1 := Lib.hid h1
    clear hkind hfit
    obtain ⟨bq, oq, rfl, hbq, c0⟩ := hq.out 0 (by omega)
    obtain ⟨_, _, he, _, c1⟩ := hq.out 1 (by omega)
    cases he
    simp only [Nat.add_zero] at c0
    obtain ⟨bf, of, rfl, hbf, d0⟩ := hfs.out _ h2'
    obtain ⟨_, _, he, _, d1⟩ := hfs.out _ h3'
    cases he
    rw [show nth f (nth r.panes 0).toNat = chosenAt r f 0 from rfl] at d0
    rw [show nth f (nth r.panes 1).toNat = chosenAt r f 1 from rfl] at d1
    obtain ⟨bk, ok, rfl, hbk, uk, ck0, hU⟩ := hk.out _ h4'
    obtain ⟨au, cu, rfl, lu, hu⟩ := hU.opened
    obtain ⟨bu, ou, rfl, hbu, cu0⟩ := hu.out _ h5'
    clear hU hu hq hfs hk
    go_wp2
    refine wp_region_later x1 (by kernel_rfl) (by kernel_rfl) ?_
    repeat (go_big_quiet_step (fail))
    refine wpQuiet_nil ?_
    rintro _ ⟨x1, rfl⟩
    go_wp2
    go_ret; exact ⟨ret_bool hkp.out.symm, x1.down hb1⟩
  · have hkp := Lib.hid (@keepsB_cnt r f hkind)
    obtain ⟨h1, h2⟩ := hfit.cnt hkind
    have hk2 : (r.kind == 2) = false := by simp [hkind]
    replace h1 := Lib.hid h1
    replace h2 := Lib.hid h2
    clear hkind hfit
    go_wp2
    go_loopw [5, 6] (fun n i wr => ∃ k : Nat, k ≤ r.panes.length ∧ i = .int .i64 k ∧ n = .int .i64 (hitsTo r f k) ∧ (∃ y : Later W1, wr = y.w)) (fun _ i _ => r.panes.length - (intOf i).toNat)
    case atStart => exact ⟨0, Nat.zero_le _, rfl, rfl, ⟨x1, rfl⟩⟩
    case round =>
      obtain ⟨k, hkl, rfl, rfl, ⟨x, rfl⟩⟩ := hrel
      by_cases hlt : k < r.panes.length
      · obtain ⟨⟨g1, g1'⟩, g2, g2'⟩ := h2.out k hlt
        have hkh : k < r.hits.length := by have := h1.out; omega
        have hbd := hitsTo_bd r f k
        have HS : Hid (hitsTo r f (k + 1) = if hitAt r f k = true then hitsTo r f k + 1 else hitsTo r f k) := Lib.hid rfl
        obtain ⟨bq, oq, rfl, hbq, c0⟩ := hq.out k hlt
        obtain ⟨bf, of, rfl, hbf, d0⟩ := hfs.out _ g1'
        rw [show nth f (nth r.panes k).toNat = chosenAt r f k from rfl] at d0
        obtain ⟨bh, oh, rfl, hbh, uh, ch0, hU⟩ := hh.out k hkh
        obtain ⟨au, cu, rfl, lu, hu⟩ := hU.opened
        obtain ⟨bu, ou, rfl, hbu, cu0⟩ := hu.out _ g2'
        rw [show nth (nth r.hits k) (chosenAt r f k).toNat = hitAt r f k from rfl] at cu0
        clear hU hu
        go_wp2
        refine wp_region_later x (by kernel_rfl) (by kernel_rfl) ?_
        repeat (go_big_quiet_step (fail))
        refine wpQuiet_nil ?_
        rintro _ ⟨x, rfl⟩
        cases hA : hitAt r f k <;> go_wp2
        · go_roundw
          case rel => exact ⟨k + 1, by omega, by go_num, by rw [HS.out, if_neg (by simp [hA])], ⟨x, rfl⟩⟩
          case measure => simp [intOf]; omega
        · go_roundw
          case rel => exact ⟨k + 1, by omega, by go_num, by rw [HS.out, if_pos hA], ⟨x, rfl⟩⟩
          case measure => simp [intOf]; omega
      · obtain rfl : k = r.panes.length := by omega
        go_wp2_with (go_at_call 85; refine (rwithin _ _ _ _).mono ?_; rintro e w' ⟨rfl, rfl⟩)
        go_ret; exact ⟨ret_bool hkp.out.symm, x.down hb1⟩
end Go.Proofs.Ytmpkbolabdmkkaa

/- CONTRACTS of the reference's Space, checked, Sound, agrees, Agrees, large, there. -/
namespace Go.Proofs.Ytmpkbolabdmkkaa
open Go.RowKit

set_option maxRecDepth 100000 in
set_option maxHeartbeats 1000000 in
theorem rSpace {W : World} (x : Later W) (v0 v1 v2 : Value) (p : Prob) (hp : IsProb W v0 v1 v2 p) :
    Calls Try.prog 33 #[.agg #[v0, v1, v2]] x.w (Ends W (.tuple #[.int .i64 (spaceV p), .int .i64 (spaceE p)])) := by
  go_enter Try.func33, Try.ntmps33
  go_upto_region 1 with (fail)
  obtain ⟨W1, x1, e1, hb1, s1, p0, p1, p2⟩ := enter3 x v0 v1 v2 26
  rw [e1]; clear e1
  have HP := Lib.hid (hp.below hb1)
  obtain ⟨ap, cp, rfl, lp, _⟩ := hp.panes.opened
  obtain ⟨ao, co, rfl, lo, _⟩ := hp.opts.opened
  obtain ⟨ar, cr, rfl, lr, _⟩ := hp.rules.opened
  clear hp
  cases hv : validP p
  · go_wp2_with (go_at_call 27; refine (rValid x1 _ _ _ p HP.out).mono ?_; rintro e w' ⟨rfl, x1, rfl⟩)
    go_ret2; exact ⟨by simp [spaceV, spaceE, hv], x1.down hb1⟩
  · have h300 := Lib.hid (fun i (hi : i < p.opts.length) => Nat.le_trans (valid_opts hv hi).2 (show 256 ≤ 300 by decide))
    cases hA : decide (1125899906842624 < rspace p)
    · go_wp2_with (first | (go_at_call 27; refine (rValid x1 _ _ _ p HP.out).mono ?_; rintro e w' ⟨rfl, x1, rfl⟩) | (go_at_call 70; refine (rspace_walk x1 _ _ _ p HP.out h300.out).mono ?_; rintro e w' ⟨rfl, x1, rfl⟩))
      go_ret2; exact ⟨by simp at hA; simp [spaceV, spaceE, hv]; omega, x1.down hb1⟩
    · go_wp2_with (first | (go_at_call 27; refine (rValid x1 _ _ _ p HP.out).mono ?_; rintro e w' ⟨rfl, x1, rfl⟩) | (go_at_call 70; refine (rspace_walk x1 _ _ _ p HP.out h300.out).mono ?_; rintro e w' ⟨rfl, x1, rfl⟩))
      go_ret2; exact ⟨by simp at hA; simp [spaceV, spaceE, hv]; omega, x1.down hb1⟩

set_option maxRecDepth 100000 in
set_option maxHeartbeats 1000000 in
theorem rchecked {W : World} (x : Later W) (v0 v1 v2 vf : Value) (p : Prob) (f : List Int) (hp : IsProb W v0 v1 v2 p) (hf : IsInts W vf f) :
    Calls Try.prog 92 #[.agg #[v0, v1, v2], vf] x.w (Ends W (.int .i64 (wrongC p f))) := by
  go_enter Try.func92, Try.ntmps92
  go_upto_region 1 with (fail)
  obtain ⟨W1, x1, e1, hb1, s1, p0, p1, p2⟩ := enter3 x v0 v1 v2 26
  rw [e1]; clear e1
  have HP := Lib.hid (hp.below hb1)
  have HF := Lib.hid (hf.below hb1)
  obtain ⟨ap, cp, rfl, lp, _⟩ := hp.panes.opened
  obtain ⟨ao, co, rfl, lo, _⟩ := hp.opts.opened
  obtain ⟨ar, cr, rfl, lr, _⟩ := hp.rules.opened
  clear hp
  cases hv : validP p
  · go_wp2_with (go_at_call 27; refine (rValid x1 _ _ _ p HP.out).mono ?_; rintro e w' ⟨rfl, x1, rfl⟩)
    go_ret; exact ⟨ret_int (wrongC_70 hv).symm, x1.down hb1⟩
  · have hlen := Lib.hid (valid_len hv)
    cases hfl : fillB p f
    · go_wp2_with (first | (go_at_call 27; refine (rValid x1 _ _ _ p HP.out).mono ?_; rintro e w' ⟨rfl, x1, rfl⟩) | (go_at_call 136; refine (rfilling x1 _ _ _ _ p f HP.out HF.out hlen.out).mono ?_; rintro e w' ⟨rfl, x1, rfl⟩))
      go_ret; exact ⟨ret_int (wrongC_71 hv hfl).symm, x1.down hb1⟩
    · go_wp2_with (first | (go_at_call 27; refine (rValid x1 _ _ _ p HP.out).mono ?_; rintro e w' ⟨rfl, x1, rfl⟩) | (go_at_call 136; refine (rfilling x1 _ _ _ _ p f HP.out HF.out hlen.out).mono ?_; rintro e w' ⟨rfl, x1, rfl⟩))
      go_ret; exact ⟨ret_int (wrongC_0 hv hfl).symm, x1.down hb1⟩

set_option maxRecDepth 100000 in
set_option maxHeartbeats 1000000 in
theorem rSound {W : World} (x : Later W) (v0 v1 v2 vf : Value) (p : Prob) (f : List Int) (hp : IsProb W v0 v1 v2 p) (hf : IsInts W vf f) :
    Calls Try.prog 35 #[.agg #[v0, v1, v2], vf] x.w (Ends W (.tuple #[.bool (sndB p f), .int .i64 (wrongC p f)])) := by
  go_enter Try.func35, Try.ntmps35
  go_upto_region 1 with (fail)
  obtain ⟨W1, x1, e1, hb1, s1, p0, p1, p2⟩ := enter3 x v0 v1 v2 26
  rw [e1]; clear e1
  have HP := Lib.hid (hp.below hb1)
  have HF := Lib.hid (hf.below hb1)
  obtain ⟨ap, cp, rfl, lp, _⟩ := hp.panes.opened
  obtain ⟨ao, co, rfl, lo, _⟩ := hp.opts.opened
  obtain ⟨ar, cr, rfl, lr, _⟩ := hp.rules.opened
  clear hp
  by_cases h0 : wrongC p f = 0
  · have hw : (wrongC p f == 0) = true := by simp [h0]
    obtain ⟨hv, hfl⟩ := wrongC_iff.1 h0
    have hlen : Hid (f.length = p.opts.length) := Lib.hid (by rw [(fillB_iff.1 hfl).1, valid_len hv])
    have hfill := Lib.hid (fun i (hi : i < f.length) => fill_at hfl hi)
    have hr : Hid (sndB p f = soundB p f) := Lib.hid (by simp [sndB, h0])
    replace h0 := Lib.hid h0
    clear hv hfl
    go_wp2_with (first | (go_at_call 92; refine (rchecked x1 _ _ _ _ p f HP.out HF.out).mono ?_; rintro e w' ⟨rfl, x1, rfl⟩) | (go_at_call 93; refine (rsound x1 _ _ _ _ p f HP.out HF.out hlen.out hfill.out).mono ?_; rintro e w' ⟨rfl, x1, rfl⟩))
    go_ret2; exact ⟨by rw [hr.out]; rfl, x1.down hb1⟩
  · have hw : (wrongC p f == 0) = false := by simp [h0]
    have hr : Hid (sndB p f = false) := Lib.hid (by simp [sndB, h0])
    clear h0
    go_wp2_with (go_at_call 92; refine (rchecked x1 _ _ _ _ p f HP.out HF.out).mono ?_; rintro e w' ⟨rfl, x1, rfl⟩)
    go_ret2; exact ⟨by rw [hr.out]; rfl, x1.down hb1⟩

set_option maxRecDepth 100000 in
set_option maxHeartbeats 1000000 in
theorem ragrees {W : World} (x : Later W) (v0 v1 v2 vf : Value) (p : Prob) (f : List Int) (hp : IsProb W v0 v1 v2 p) (hf : IsInts W vf f) (hv : validP p = true) (hfl : fillB p f = true) :
    Calls Try.prog 102 #[.agg #[v0, v1, v2], vf] x.w (Ends W (.bool (agreesB p f))) := by
  have hlen : Hid (f.length = p.opts.length) := Lib.hid (by rw [(fillB_iff.1 hfl).1, valid_len hv])
  have hfill := Lib.hid (fun i (hi : i < f.length) => fill_at hfl hi)
  have hfit := Lib.hid (fun i (hi : i < p.rules.length) => fits_of hv hfl hi)
  have hbad := Lib.hid (fun i => @agreesB_bad p f i)
  have hrest := Lib.hid (@agreesB_rest p f)
  clear hv hfl
  go_enter Try.func102, Try.ntmps102
  go_upto_region 1 with (fail)
  obtain ⟨W1, x1, e1, hb1, s1, p0, p1, p2⟩ := enter3 x v0 v1 v2 26
  rw [e1]; clear e1
  have HP := Lib.hid (hp.below hb1)
  have HF := Lib.hid (hf.below hb1)
  obtain ⟨ap, cp, rfl, lp, _⟩ := hp.panes.opened
  obtain ⟨ao, co, rfl, lo, _⟩ := hp.opts.opened
  obtain ⟨ar, cr, rfl, lr, hr⟩ := HP.out.rules.opened
  clear hp hf
  go_wp2
  go_loopw [5] (fun i wr => ∃ k : Nat, k ≤ p.rules.length ∧ i = .int .i64 k ∧ (∃ y : Later W1, wr = y.w) ∧ (∀ i, i < k → keepsB (nth p.rules i) f = true)) (fun i _ => p.rules.length - (intOf i).toNat)
  case atStart => exact ⟨0, Nat.zero_le _, rfl, ⟨x1, rfl⟩, by omega⟩
  case round =>
    obtain ⟨k, hk, rfl, ⟨x, rfl⟩, hin⟩ := hrel
    replace hin := Lib.hid hin
    by_cases hlt : k < p.rules.length
    · obtain ⟨b, o, rfl, hb, u2, u3, u6, c0, c1, c2, c3, c4, c5, c6, hR⟩ := hr.out k hlt
      have HR := Lib.hid hR
      obtain ⟨aq, cq, rfl, _, _⟩ := hR.panes.opened
      obtain ⟨ah, ch, rfl, _, _⟩ := hR.hits.opened
      obtain ⟨ak, ck, rfl, _, _⟩ := hR.ok.opened
      clear hR
      cases hA : keepsB (nth p.rules k) f
      · go_wp2_with (go_at_call 98; refine (rkeeps x _ _ _ _ p (nth p.rules k) f HR.out HF.out (hfit.out k hlt)).mono ?_; rintro e w' ⟨rfl, x, rfl⟩)
        go_ret; exact ⟨ret_bool (hbad.out k hlt hA).symm, x.down hb1⟩
      · go_wp2_with (go_at_call 98; refine (rkeeps x _ _ _ _ p (nth p.rules k) f HR.out HF.out (hfit.out k hlt)).mono ?_; rintro e w' ⟨rfl, x, rfl⟩)
        go_roundw
        case rel => exact ⟨k + 1, by omega, by go_num, ⟨x, rfl⟩, all_step hin.out hA⟩
        case measure => simp [intOf]; omega
    · obtain rfl : k = p.rules.length := by omega
      go_wp2_with (go_at_call 93; refine (rsound x _ _ _ _ p f HP.out HF.out hlen.out hfill.out).mono ?_; rintro e w' ⟨rfl, x, rfl⟩)
      go_ret; exact ⟨ret_bool (hrest.out hin.out).symm, x.down hb1⟩

set_option maxRecDepth 100000 in
set_option maxHeartbeats 1000000 in
theorem rAgrees {W : World} (x : Later W) (v0 v1 v2 vf : Value) (p : Prob) (f : List Int) (hp : IsProb W v0 v1 v2 p) (hf : IsInts W vf f) :
    Calls Try.prog 42 #[.agg #[v0, v1, v2], vf] x.w (Ends W (.tuple #[.bool (agrB p f), .int .i64 (wrongC p f)])) := by
  go_enter Try.func42, Try.ntmps42
  go_upto_region 1 with (fail)
  obtain ⟨W1, x1, e1, hb1, s1, p0, p1, p2⟩ := enter3 x v0 v1 v2 26
  rw [e1]; clear e1
  have HP := Lib.hid (hp.below hb1)
  have HF := Lib.hid (hf.below hb1)
  obtain ⟨ap, cp, rfl, lp, _⟩ := hp.panes.opened
  obtain ⟨ao, co, rfl, lo, _⟩ := hp.opts.opened
  obtain ⟨ar, cr, rfl, lr, _⟩ := hp.rules.opened
  clear hp
  by_cases h0 : wrongC p f = 0
  · have hw : (wrongC p f == 0) = true := by simp [h0]
    have hv := Lib.hid (wrongC_iff.1 h0)
    have hr : Hid (agrB p f = agreesB p f) := Lib.hid (by simp [agrB, h0])
    clear h0
    go_wp2_with (first | (go_at_call 92; refine (rchecked x1 _ _ _ _ p f HP.out HF.out).mono ?_; rintro e w' ⟨rfl, x1, rfl⟩) | (go_at_call 102; refine (ragrees x1 _ _ _ _ p f HP.out HF.out hv.out.1 hv.out.2).mono ?_; rintro e w' ⟨rfl, x1, rfl⟩))
    go_ret2; exact ⟨by rw [hr.out]; rfl, x1.down hb1⟩
  · have hw : (wrongC p f == 0) = false := by simp [h0]
    have hr : Hid (agrB p f = false) := Lib.hid (by simp [agrB, h0])
    clear h0
    go_wp2_with (go_at_call 92; refine (rchecked x1 _ _ _ _ p f HP.out HF.out).mono ?_; rintro e w' ⟨rfl, x1, rfl⟩)
    go_ret2; exact ⟨by rw [hr.out]; rfl, x1.down hb1⟩
end Go.Proofs.Ytmpkbolabdmkkaa

/- CONTRACTS of the reference's Breaks, violates, Violates. -/
namespace Go.Proofs.Ytmpkbolabdmkkaa
open Go.RowKit

theorem breaksTo_yes {p : Prob} {f : List Int} {k : Nat} (h : keepsB (nth p.rules k) f = false) : breaksTo p f (k + 1) = breaksTo p f k ++ [(k : Int)] := by
  show (if _ then _ else _) = _; rw [if_neg (by simp [h])]
theorem breaksTo_no {p : Prob} {f : List Int} {k : Nat} (h : keepsB (nth p.rules k) f = true) : breaksTo p f (k + 1) = breaksTo p f k := by
  show (if _ then _ else _) = _; rw [if_pos h]

set_option maxRecDepth 100000 in
set_option maxHeartbeats 1000000 in
theorem rBreaks {W : World} (x : Later W) (v0 v1 v2 vf : Value) (p : Prob) (f : List Int) (hp : IsProb W v0 v1 v2 p) (hf : IsInts W vf f) :
    Calls Try.prog 38 #[.agg #[v0, v1, v2], vf] x.w (EndsIntsE W (brkL p f) (wrongC p f)) := by
  go_enter Try.func38, Try.ntmps38
  go_upto_region 1 with (fail)
  obtain ⟨W1, x1, e1, hb1, s1, p0, p1, p2⟩ := enter3 x v0 v1 v2 26
  rw [e1]; clear e1
  have HP := Lib.hid (hp.below hb1)
  have HF := Lib.hid (hf.below hb1)
  obtain ⟨ap, cp, rfl, lp, _⟩ := hp.panes.opened
  obtain ⟨ao, co, rfl, lo, _⟩ := hp.opts.opened
  obtain ⟨ar, cr, rfl, lr, hr⟩ := HP.out.rules.opened
  clear hp hf
  by_cases h0 : wrongC p f = 0
  · have hw : (wrongC p f == 0) = true := by simp [h0]
    have hv := Lib.hid (wrongC_iff.1 h0)
    have hres : Hid (brkL p f = breaksL p f) := Lib.hid (by simp [brkL, h0])
    have hfit := Lib.hid (fun i (hi : i < p.rules.length) => fits_of hv.out.1 hv.out.2 hi)
    clear h0
    go_wp2_with (go_at_call 92; refine (rchecked x1 _ _ _ _ p f HP.out HF.out).mono ?_; rintro e w' ⟨rfl, x1, rfl⟩)
    go_loopw [7, 8] (fun v i wr => ∃ k : Nat, k ≤ p.rules.length ∧ i = .int .i64 k ∧ (∃ y : Later W1, wr = y.w ∧ y.w.ownsRow W1.heap.size 3 1 v (breaksTo p f k).length ((breaksTo p f k).map (Value.int .i64)))) (fun _ i _ => p.rules.length - (intOf i).toNat)
    case atStart => exact ⟨0, Nat.zero_le _, rfl, ⟨x1, rfl, World.ownsRow_nil _ _ _ _⟩⟩
    case round =>
      obtain ⟨k, hk, rfl, ⟨x, rfl, hown⟩⟩ := hrel
      have hle := breaksTo_len p f k
      by_cases hlt : k < p.rules.length
      · obtain ⟨b, o, rfl, hb, u2, u3, u6, c0, c1, c2, c3, c4, c5, c6, hR⟩ := hr.out k hlt
        have HR := Lib.hid hR
        obtain ⟨aq, cq, rfl, _, _⟩ := hR.panes.opened
        obtain ⟨ah, ch, rfl, _, _⟩ := hR.hits.opened
        obtain ⟨ak, ck, rfl, _, _⟩ := hR.ok.opened
        clear hR
        have hC := Lib.hid (rkeeps (Later.now x.w) _ _ _ _ p (nth p.rules k) f (HR.out.below x.h) (HF.out.below x.h) (hfit.out k hlt))
        cases hA : keepsB (nth p.rules k) f
        · have HS := Lib.hid (breaksTo_yes hA)
          go_wp2_with (first | (go_at_call 98; refine (calls_on x hC.out).mono ?_; rintro e w' ⟨rfl, y, rfl, hy⟩; replace hown := owns_later hown hy) | (at_builtin; refine wpList_app1 y 22 3 _ 8 Try.info3 rfl Try.underlying22 rfl _ _ rfl _ _ _ (by rfl) hown _ (by rfl) (by rfl) (by omega) (by omega) ?_; intro v' x hown' hgr))
          go_roundw
          case rel => exact ⟨k + 1, by omega, by go_num, ⟨x, rfl, owns_step hown' HS.out⟩⟩
          case measure => simp [intOf]; omega
        · have HS := Lib.hid (breaksTo_no hA)
          go_wp2_with (go_at_call 98; refine (calls_on x hC.out).mono ?_; rintro e w' ⟨rfl, y, rfl, hy⟩; replace hown := owns_later hown hy)
          go_roundw
          case rel => exact ⟨k + 1, by omega, by go_num, ⟨y, rfl, by rw [HS.out]; exact hown⟩⟩
          case measure => simp [intOf]; omega
      · obtain rfl : k = p.rules.length := by omega
        go_wp2
        go_ret2
        obtain ⟨z, hz⟩ := x.down hb1
        exact ⟨_, rfl, z, hz, hz ▸ (hres.out ▸ isInts_of_owns hown (by omega))⟩
  · have hw : (wrongC p f == 0) = false := by simp [h0]
    have hres : Hid (brkL p f = []) := Lib.hid (by simp [brkL, h0])
    clear h0
    go_wp2_with (go_at_call 92; refine (rchecked x1 _ _ _ _ p f HP.out HF.out).mono ?_; rintro e w' ⟨rfl, x1, rfl⟩)
    go_loopw [7, 8] (fun v i wr => v = .slice none 0 0 ∧ i = .int .i64 0 ∧ (∃ y : Later W1, wr = y.w)) (fun _ _ _ => 0)
    case atStart => exact ⟨rfl, rfl, ⟨x1, rfl⟩⟩
    case round =>
      obtain ⟨rfl, rfl, ⟨x, rfl⟩⟩ := hrel
      cases hz : decide (0 < p.rules.length) <;> go_wp2
      all_goals
        go_ret2
        obtain ⟨z, hz⟩ := x.down hb1
        exact ⟨_, rfl, z, hz, hz ▸ (hres.out ▸ isInts_of_owns (l := []) (World.ownsRow_nil _ W1.heap.size 3 1) (by simp))⟩

set_option maxRecDepth 100000 in
set_option maxHeartbeats 1000000 in
theorem rviolates {W : World} (x : Later W) (v0 v1 v2 vf : Value) (p : Prob) (f : List Int) (hp : IsProb W v0 v1 v2 p) (hf : IsInts W vf f) (hv : validP p = true) (hfl : fillB p f = true) :
    Calls Try.prog 100 #[.agg #[v0, v1, v2], vf] x.w (EndsInts W (violL p f)) := by
  have hfit := Lib.hid (fun i (hi : i < p.rules.length) => fits_of hv hfl hi)
  clear hv hfl
  go_enter Try.func100, Try.ntmps100
  go_upto_region 1 with (fail)
  obtain ⟨W1, x1, e1, hb1, s1, p0, p1, p2⟩ := enter3 x v0 v1 v2 26
  rw [e1]; clear e1
  have HF := Lib.hid (hf.below hb1)
  obtain ⟨ar, cr, rfl, lr, hr⟩ := (hp.rules.below hb1).opened
  clear hp hf
  go_wp2
  go_loopw [5, 6] (fun v i wr => ∃ k : Nat, k ≤ p.rules.length ∧ i = .int .i64 k ∧ (∃ y : Later W1, wr = y.w ∧ y.w.ownsRow W1.heap.size 3 1 v (violTo p f k).length ((violTo p f k).map (Value.int .i64)))) (fun _ i _ => p.rules.length - (intOf i).toNat)
  case atStart => exact ⟨0, Nat.zero_le _, rfl, ⟨x1, rfl, World.ownsRow_nil _ _ _ _⟩⟩
  case round =>
    obtain ⟨k, hk, rfl, ⟨x, rfl, hown⟩⟩ := hrel
    have hle := violTo_len p f k
    by_cases hlt : k < p.rules.length
    · obtain ⟨b, o, rfl, hb, u2, u3, u6, c0, c1, c2, c3, c4, c5, c6, hR⟩ := hr.out k hlt
      have HR := Lib.hid hR
      obtain ⟨aq, cq, rfl, _, _⟩ := hR.panes.opened
      obtain ⟨ah, ch, rfl, _, _⟩ := hR.hits.opened
      obtain ⟨ak, ck, rfl, _, _⟩ := hR.ok.opened
      clear hR
      have hC := Lib.hid (fun z : Later x.w => rkeeps z _ _ _ _ p (nth p.rules k) f (HR.out.below x.h) (HF.out.below x.h) (hfit.out k hlt))
      obtain ⟨av, cv, hve, _, hV⟩ := (isInts_of_owns hown (by omega)).opened
      cases hve
      have HY := Lib.hid (@violTo_yes p f k)
      have HN := Lib.hid (@violTo_no p f k)
      cases hA : keepsB (nth p.rules k) f
      · by_cases hL : (violTo p f k).length = 0
        · have hL' : (((violTo p f k).length : Int) == 0) = true := by simp [hL]
          replace HY := Lib.hid (HY.out hA (.inl hL))
          replace hL := Lib.hid hL
          go_wp2
          refine wp_region_since x (by kernel_rfl) (by kernel_rfl) ?_
          repeat (go_big_quiet_step ((go_at_call 98; exact calls_since hC.out)))
          refine wpQuiet_nil ?_
          rintro _ ⟨⟨y, hy⟩, rfl⟩
          replace hown := owns_later hown hy
          go_wp2_with (at_builtin; refine wpList_app1 y 22 3 _ 8 Try.info3 rfl Try.underlying22 rfl _ _ rfl _ _ _ (by rfl) hown _ (by rfl) (by rfl) (by omega) (by omega) ?_; intro v' x hown' hgr)
          go_roundw
          case rel => exact ⟨k + 1, by omega, by go_num, ⟨x, rfl, owns_step hown' HY.out⟩⟩
          case measure => simp [intOf]; omega
        · have hL' : (((violTo p f k).length : Int) == 0) = false := by simp; exact fun h => hL (by simp [h])
          have hL2 : (violTo p f k).length - 1 < (violTo p f k).length := by omega
          have hL3 : 0 < (violTo p f k).length := by omega
          obtain ⟨bv, ov, rfl, hbv, d0⟩ := hV.out _ hL2
          replace d0 := Since.cells d0
          replace hbv := Since.sizes hbv
          replace hL := Lib.hid hL
          go_wp2
          refine wp_region_since x (by kernel_rfl) (by kernel_rfl) ?_
          repeat (go_big_quiet_step ((go_at_call 98; exact calls_since hC.out)))
          refine wpQuiet_nil ?_
          rintro _ ⟨⟨y, hy⟩, rfl⟩
          replace hown := owns_later hown hy
          go_wp2_with (at_builtin; refine wpList_app1 y 22 3 _ 8 Try.info3 rfl Try.underlying22 rfl _ _ rfl _ _ _ (by rfl) hown _ (by rfl) (by rfl) (by omega) (by omega) ?_; intro v' x hown' hgr)
          · go_roundw
            case rel => exact ⟨k + 1, by omega, by go_num, ⟨x, rfl, owns_step hown' (HY.out hA (.inr (ne_bneI (by assumption))))⟩⟩
            case measure => simp [intOf]; omega
          · go_roundw
            case rel => exact ⟨k + 1, by omega, by go_num, ⟨y, rfl, by rw [HN.out (.inr ⟨hL3, eq_bneI (by assumption)⟩)]; exact hown⟩⟩
            case measure => simp [intOf]; omega
      · go_wp2
        refine wp_region_since x (by kernel_rfl) (by kernel_rfl) ?_
        repeat (go_big_quiet_step ((go_at_call 98; exact calls_since hC.out)))
        refine wpQuiet_nil ?_
        rintro _ ⟨⟨y, hy⟩, rfl⟩
        replace hown := owns_later hown hy
        go_wp2
        go_roundw
        case rel => exact ⟨k + 1, by omega, by go_num, ⟨y, rfl, by rw [HN.out (.inl hA)]; exact hown⟩⟩
        case measure => simp [intOf]; omega
    · obtain rfl : k = p.rules.length := by omega
      go_wp2
      go_ret
      obtain ⟨z, hz⟩ := x.down hb1
      exact ⟨_, rfl, z, hz, hz ▸ isInts_of_owns hown (by omega)⟩

set_option maxRecDepth 100000 in
set_option maxHeartbeats 1000000 in
theorem rViolates {W : World} (x : Later W) (v0 v1 v2 vf : Value) (p : Prob) (f : List Int) (hp : IsProb W v0 v1 v2 p) (hf : IsInts W vf f) :
    Calls Try.prog 40 #[.agg #[v0, v1, v2], vf] x.w (EndsIntsE W (vioL p f) (wrongC p f)) := by
  go_enter Try.func40, Try.ntmps40
  go_upto_region 1 with (fail)
  obtain ⟨W1, x1, e1, hb1, s1, p0, p1, p2⟩ := enter3 x v0 v1 v2 26
  rw [e1]; clear e1
  have HP := Lib.hid (hp.below hb1)
  have HF := Lib.hid (hf.below hb1)
  obtain ⟨ap, cp, rfl, lp, _⟩ := hp.panes.opened
  obtain ⟨ao, co, rfl, lo, _⟩ := hp.opts.opened
  obtain ⟨ar, cr, rfl, lr, hr⟩ := HP.out.rules.opened
  clear hp hf
  by_cases h0 : wrongC p f = 0
  · have hw : (wrongC p f != 0) = false := by simp [h0]
    have hv := Lib.hid (wrongC_iff.1 h0)
    have hres : Hid (vioL p f = violL p f ∧ wrongC p f = 0) := Lib.hid (by simp [vioL, h0])
    clear h0
    go_wp2_with (first | (go_at_call 92; refine (rchecked x1 _ _ _ _ p f HP.out HF.out).mono ?_; rintro e w' ⟨rfl, x1, rfl⟩) | (go_at_call 100; refine (rviolates x1 _ _ _ _ p f HP.out HF.out hv.out.1 hv.out.2).mono ?_; rintro e w' ⟨v, rfl, x1, rfl, hI⟩))
    go_ret2
    obtain ⟨z, hz⟩ := x1.down hb1
    exact ⟨_, by rw [hres.out.2]; rfl, z, hz, hz ▸ (hres.out.1 ▸ hI)⟩
  · have hw : (wrongC p f != 0) = true := by simp [h0]
    have hres : Hid (vioL p f = []) := Lib.hid (by simp [vioL, h0])
    clear h0
    go_wp2_with (go_at_call 92; refine (rchecked x1 _ _ _ _ p f HP.out HF.out).mono ?_; rintro e w' ⟨rfl, x1, rfl⟩)
    go_ret2
    obtain ⟨z, hz⟩ := x1.down hb1
    exact ⟨_, rfl, z, hz, hz ▸ (hres.out ▸ isInts_of_owns (l := []) (World.ownsRow_nil _ W1.heap.size 3 1) (by simp))⟩
end Go.Proofs.Ytmpkbolabdmkkaa

/- CONTRACTS of the reference's after, all, large. -/
namespace Go.Proofs.Ytmpkbolabdmkkaa
open Go.RowKit

theorem set_at {α : Type} (A B : List α) (x y : α) {k : Nat} (hk : k = A.length) : (A ++ [x] ++ B).set k y = A ++ [y] ++ B := by subst hk; simp
theorem map_parts (f : List Int) (k : Nat) (hk : k < f.length) (B : List Int) : (f.take (k + 1) ++ B).map (Value.int .i64) = (f.take k).map (Value.int .i64) ++ [.int .i64 (nth f k)] ++ B.map (Value.int .i64) := by
  rw [take_snoc_nth f k hk, List.map_append, List.map_append]; rfl
theorem set_zero (f : List Int) (k : Nat) (hk : k < f.length) : (((f.take (k + 1) ++ List.replicate (f.length - (k + 1)) 0).map (Value.int .i64)).set k (.int .i64 0)) = (f.take k ++ List.replicate (f.length - k) 0).map (Value.int .i64) := by
  rw [map_parts f k hk, set_at _ _ _ _ (by rw [List.length_map, List.length_take]; omega), show f.length - k = (f.length - (k + 1)) + 1 by omega, List.replicate_succ, List.map_append, List.map_cons, List.append_assoc]; rfl
theorem set_next (f : List Int) (k : Nat) (hk : k < f.length) : (((f.take (k + 1) ++ List.replicate (f.length - (k + 1)) 0).map (Value.int .i64)).set k (.int .i64 (nth f k + 1))) = (f.take k ++ [nth f k + 1] ++ List.replicate (f.length - (k + 1)) 0).map (Value.int .i64) := by
  rw [map_parts f k hk, set_at _ _ _ _ (by rw [List.length_map, List.length_take]; omega), List.map_append, List.map_append]; rfl

/-- HOW after ENDS: the next filling in memory of its own, or nothing -/
def EndsNext (W : World) (r : Option (List Int)) (e : Ending) (w' : World) : Prop :=
  match r with
  | some l => ∃ v, e = .returned (.tuple #[v, .bool true]) ∧ ∃ y : Later W, w' = y.w ∧ y.w.ownsRow W.heap.size 3 1 v l.length (l.map (Value.int .i64))
  | none => Ends W (.tuple #[.slice none 0 0, .bool false]) e w'

set_option maxRecDepth 100000 in
set_option maxHeartbeats 1000000 in
theorem rafter {W : World} (x : Later W) (v0 v1 v2 vf : Value) (p : Prob) (f : List Int) (hp : IsProb W v0 v1 v2 p) (hf : IsInts W vf f) (hlen : f.length = p.opts.length) (hfill : ∀ i, i < f.length → 0 ≤ nth f i ∧ nth f i < (nth p.opts i).length) :
    Calls Try.prog 156 #[.agg #[v0, v1, v2], vf] x.w (EndsNext W (nextF p f)) := by
  replace hlen := Lib.hid hlen
  replace hfill := Lib.hid hfill
  go_enter Try.func156, Try.ntmps156
  go_upto_region 1 with (fail)
  obtain ⟨W1, x1, e1, hb1, s1, p0, p1, p2⟩ := enter3 x v0 v1 v2 26
  rw [e1]; clear e1
  obtain ⟨ao, co, rfl, lo, hopts⟩ := (hp.opts.below hb1).opened
  have HF := Lib.hid (hf.below hb1)
  obtain ⟨af, cf, rfl, lf, hfs⟩ := HF.out.opened
  clear hp hf
  obtain ⟨z, hz, hown⟩ := owns_empty x1 3 1
  go_wp2_with (at_builtin; refine wpList_appN z 22 3 _ 1 8 Try.info3 rfl (by decide) Try.underlying22 rfl _ _ rfl _ _ _ (by rfl) hown af f.length cf (f.map (Value.int .i64)) (by rfl) (by simp) (ints_cells hfs.out z) (ints_one f) (by omega) (by omega) ?_; intro v' x hown' _; obtain ⟨A', c', rfl⟩ := owns_slice hown')
  clear hz hown
  simp only [Nat.zero_add, List.nil_append] at hown' ⊢
  have hcur : ∀ j, j ≤ f.length → (f.take j ++ List.replicate (f.length - j) 0).length = f.length := fun j hj => by simp; omega
  have hlast := Lib.hid (@nextF_last' p f)
  have hstop := Lib.hid (fun j => @nextF_stop' p f j)
  replace hcur := Lib.hid hcur
  go_loopw [7] (fun i wr => ∃ j : Nat, j ≤ f.length ∧ i = .int .i64 ((j : Int) - 1) ∧ (∃ y : Later W1, wr = y.w ∧ y.w.ownsRow W1.heap.size 3 1 (.slice A' f.length c') f.length ((f.take j ++ List.replicate (f.length - j) 0).map (Value.int .i64))) ∧ (∀ i, j ≤ i → i < f.length → (dim p i : Int) ≤ nth f i + 1)) (fun i _ => (intOf i + 1).toNat)
  case atStart => exact ⟨f.length, Nat.le_refl _, rfl, ⟨x, rfl, by simpa using hown'⟩, by omega⟩
  case round =>
    clear hown'
    obtain ⟨j, hj, rfl, ⟨x, rfl, hown⟩, hno⟩ := hrel
    replace hno := Lib.hid hno
    rcases Nat.eq_zero_or_pos j with rfl | hpos
    · go_wp2
      go_ret2
      have hr := hlast.out (fun i hi => hno.out i (Nat.zero_le _) hi)
      rw [hr]
      exact ⟨rfl, x.down hb1⟩
    · obtain ⟨k, rfl⟩ : ∃ k, j = k + 1 := ⟨j - 1, by omega⟩
      have hk : k < f.length := by omega
      have hko : k < p.opts.length := by have := hlen.out; omega
      obtain ⟨g, c2, hv, _, _⟩ := owns_head hown (by omega)
      cases hv
      have ek : ((k + 1 : Nat) : Int) - 1 = k := by omega
      rw [ek]
      clear ek
      have hval : ((f.take (k + 1) ++ List.replicate (f.length - (k + 1)) 0).map (Value.int .i64))[k]? = some (.int .i64 (nth f k)) := by
        rw [nth_eq f k hk]; simp [List.getElem?_append, Nat.min_eq_left (show k + 1 ≤ f.length by omega)]
      have hset0 := Lib.hid (set_zero f k hk)
      have hset1 := Lib.hid (set_next f k hk)
      obtain ⟨d0, _, d2, _⟩ := owns_at x hown k hk
      rw [hval] at d0
      replace d0 := Since.cells (Later.cell d2 d0)
      replace d2 := Since.sizes (Later.size d2)
      replace hval := Lib.hid hval
      have hfk := hfill.out k hk
      obtain ⟨bo, oo, rfl, hbo, uo, co0, hO⟩ := hopts.out k hko
      obtain ⟨av, cv, rfl, lv, _⟩ := hO.opened
      go_wp2
      refine wp_region_since x (by kernel_rfl) (by kernel_rfl) ?_
      repeat (go_big_quiet_step (fail))
      refine wpQuiet_nil ?_
      rintro _ ⟨⟨y, hy⟩, rfl⟩
      replace hown := owns_later hown hy
      clear d0 d2
      obtain ⟨d0, d1, d2, d3⟩ := owns_at y hown k hk
      rw [hval.out] at d0
      cases hA : decide (nth f k + 1 < (nth p.opts k).length)
      · obtain ⟨z, hz, hown', _⟩ := d3 (.int .i64 0)
        clear d3
        go_wp2
        go_roundw
        case rel => exact ⟨k, by omega, by go_num, ⟨z, rfl, by rw [← hset0.out]; exact hown'⟩, all_from hno.out (by unfold dim; simpa using hA)⟩
        case measure => simp [intOf]
      · obtain ⟨z, hz, hown', _⟩ := d3 (.int .i64 (nth f k + 1))
        clear d3
        go_wp2
        go_ret2
        have hr := hstop.out k hk (by unfold dim; simpa using hA) hno.out
        rw [hr]
        rw [hset1.out] at hown'
        replace hown' := owns_mono (owns_len hown') hb1.size
        obtain ⟨z', hz'⟩ := z.down hb1
        rw [hz'] at hown'
        exact ⟨_, rfl, z', hz', hown'⟩
end Go.Proofs.Ytmpkbolabdmkkaa

/- CONTRACTS of the reference's large, all, Agreeing. -/
namespace Go.Proofs.Ytmpkbolabdmkkaa
open Go.RowKit

theorem ends_ints_on {P : Program} {f : FuncId} {args : Array Value} {W : World} (x : Later W) {l : List Int} (h : Calls P f args x.w (EndsInts x.w l)) :
    Calls P f args x.w fun e w' => ∃ v, e = .returned v ∧ ∃ y : Later W, w' = y.w ∧ Below x.w.heap.size x.w y.w ∧ IsInts y.w v l :=
  h.mono fun _ _ ⟨v, he, z, hz, hI⟩ => ⟨v, he, x.up z, hz, z.h, hI⟩
theorem ends_next_on {P : Program} {f : FuncId} {args : Array Value} {W : World} (x : Later W) {l : List Int} {r : Option (List Int)} (hr : r = some l) (h : Calls P f args x.w (EndsNext x.w r)) :
    Calls P f args x.w fun e w' => ∃ v, e = .returned (.tuple #[v, .bool true]) ∧ ∃ y : Later W, w' = y.w ∧ Below x.w.heap.size x.w y.w ∧ y.w.ownsRow x.w.heap.size 3 1 v l.length (l.map (Value.int .i64)) := by
  subst hr
  exact h.mono fun _ _ ⟨v, he, z, hz, hI⟩ => ⟨v, he, x.up z, hz, z.h, hI⟩
theorem ends_none_on {P : Program} {f : FuncId} {args : Array Value} {W : World} (x : Later W) {r : Option (List Int)} (hr : r = none) (h : Calls P f args x.w (EndsNext x.w r)) :
    Calls P f args x.w fun e w' => e = .returned (.tuple #[.slice none 0 0, .bool false]) ∧ ∃ y : Later W, w' = y.w ∧ Below x.w.heap.size x.w y.w := by
  subst hr
  exact calls_on x h

set_option maxRecDepth 100000 in
set_option maxHeartbeats 1000000 in
theorem rlarge {W : World} (x : Later W) (v0 v1 v2 : Value) (p : Prob) (hp : IsProb W v0 v1 v2 p) :
    Calls Try.prog 82 #[.agg #[v0, v1, v2]] x.w (Ends W (.int .i64 (largeE p))) := by
  go_enter Try.func82, Try.ntmps82
  go_upto_region 1 with (fail)
  obtain ⟨W1, x1, e1, hb1, s1, p0, p1, p2⟩ := enter3 x v0 v1 v2 26
  rw [e1]; clear e1
  have HP := Lib.hid (hp.below hb1)
  obtain ⟨ap, cp, rfl, lp, _⟩ := hp.panes.opened
  obtain ⟨ao, co, rfl, lo, _⟩ := hp.opts.opened
  obtain ⟨ar, cr, rfl, lr, _⟩ := hp.rules.opened
  clear hp
  cases hv : validP p
  · go_wp2_with (go_at_call 27; refine (rValid x1 _ _ _ p HP.out).mono ?_; rintro e w' ⟨rfl, x1, rfl⟩)
    go_ret; exact ⟨ret_int (by simp [largeE, hv]), x1.down hb1⟩
  · have h300 := Lib.hid (fun i (hi : i < p.opts.length) => Nat.le_trans (valid_opts hv hi).2 (show 256 ≤ 300 by decide))
    have hgt := Lib.hid (rspace_gt hv)
    cases hA : decide (65536 < rspace p)
    all_goals
      go_wp2_with (first | (go_at_call 27; refine (rValid x1 _ _ _ p HP.out).mono ?_; rintro e w' ⟨rfl, x1, rfl⟩) | (go_at_call 70; refine (rspace_walk x1 _ _ _ p HP.out h300.out).mono ?_; rintro e w' ⟨rfl, x1, rfl⟩))
      go_ret; exact ⟨ret_int (by simp only [decide_eq_true_eq, decide_eq_false_iff_not, hgt.out] at hA; simp [largeE, hv, hA]), x1.down hb1⟩

/-- HOW A CALL ENDS that hands back lists of numbers -/
def EndsIntss (W : World) (l : List (List Int)) (e : Ending) (w' : World) : Prop := ∃ v, e = .returned v ∧ ∃ y : Later W, w' = y.w ∧ IsIntssF W.heap.size y.w v l


/-- 'make([]int, n)' -/
theorem wpList_makeInts {ops : Array Oper} {rest : List Oper} {o : Oper} {a : Act} {Q : Exit → Act → World → Prop} {W : World} (y : Later W) (hgd : o.guard = none) (l c : Operand) (ho : o.op = .makeSlice 22 l c) (n : Nat) (hl : a.eval l = .int .i64 n) (hc : a.eval c = .int .i64 n) (hn : n ≤ 17592186044416)
    (h : ∀ (z : Later W), z.w.ownsRow W.heap.size 3 1 (.slice (some ⟨y.w.heap.size, 0, none⟩) n n) n ((List.replicate n 0).map (Value.int .i64)) → Below y.w.heap.size y.w z.w → wpList Try.prog ops Q rest (a.put o.dst (.slice (some ⟨y.w.heap.size, 0, none⟩) n n)) z.w) :
    wpList Try.prog ops Q (o :: rest) a y.w := by
  obtain ⟨i0, hi, hz0, hz1, hz2⟩ := info_parts Try.info3
  have hb := y.h.size
  refine wpList_make_full y.w hgd l c 22 ho W.heap.size 3 i0 _ 1 Try.underlying22 hi hz0 hz1 .i64 .i64 _ _ n hl hc rfl rfl (by rw [hz2]; omega) (by unfold maxLen; omega) y.h.size fun w' h1 h2 => ?_
  obtain ⟨z, rfl⟩ := y.grown h2 (fun k hk => by cases hk)
  refine h z ?_ ⟨h2.os, h2.tape, h2.output, h2.size, fun k hk => h2.block k hk (by simp)⟩
  have e : (madeCells (Value.int .i64 0).cells (n * 1)).toList = (List.replicate n (0 : Int)).map (Value.int .i64) := by
    rw [Nat.mul_one, List.map_replicate]; exact toList_madeCells_one _ _
  rw [← e]; exact h1

set_option maxRecDepth 100000 in
set_option maxHeartbeats 1000000 in
theorem rall {W : World} (x : Later W) (v0 v1 v2 : Value) (p : Prob) (hp : IsProb W v0 v1 v2 p) (hv : validP p = true) (ht : total p ≤ 65536) :
    Calls Try.prog 125 #[.agg #[v0, v1, v2]] x.w (EndsIntss W (fills p)) := by
  have hlen := Lib.hid (valid_len hv)
  have hpos := total_pos hv
  have hnext := Lib.hid (fun r (hr : r < total p) => fill_next hv hr)
  have hok := Lib.hid (fun r => fill_ok hv r)
  have h64 := valid_pane64 hv
  clear hv
  go_enter Try.func125, Try.ntmps125
  go_upto_region 1 with (fail)
  obtain ⟨W1, x1, e1, hb1, s1, p0, p1, p2⟩ := enter3 x v0 v1 v2 26
  rw [e1]; clear e1
  have HP := Lib.hid (hp.below hb1)
  obtain ⟨ap, cp, rfl, lp, _⟩ := hp.panes.opened
  obtain ⟨ao, co, rfl, lo, _⟩ := hp.opts.opened
  obtain ⟨ar, cr, rfl, lr, _⟩ := hp.rules.opened
  clear hp
  go_wp2_with (at_make; refine wpList_makeInts x1 rfl _ _ rfl p.panes.length (by rfl) (by rfl) (by omega) ?_; intro y hown hy)
  obtain ⟨z, hz, hout, hzb⟩ := OwnIntss.one y (.slice (some ⟨x1.w.heap.size, 0, none⟩) p.panes.length p.panes.length) (fill p 0) (B := W1.heap.size) (by rw [fill_0, hlen.out]; exact owns_off hown (by omega) (Nat.le_refl _) (fun k hk => by cases hk))
  rw [hz]
  have hf0 : IsInts z.w (.slice (some ⟨x1.w.heap.size, 0, none⟩) p.panes.length p.panes.length) (fill p 0) := by rw [fill_0, hlen.out]; exact (isInts_of_owns hown (by omega)).below hzb
  go_loopg [3, 4] (total p - 1) (fun g vf vo wr => ∃ t : Nat, t < total p ∧ g = total p - 1 - t ∧ ∃ y : Later W1, wr = y.w ∧ OwnIntss y W1.heap.size vo ((List.range (t + 1)).map (fill p)) ∧ IsInts y.w vf (fill p t))
  case atStart => exact ⟨0, by omega, rfl, z, rfl, hout, hf0⟩
  case round =>
    clear hz hout hf0 hown hy hzb
    obtain ⟨t, htl, hg, x, rfl, hout, hf⟩ := hrel
    replace hg := Lib.hid hg
    have HF := Lib.hid hf
    obtain ⟨af, cf, rfl, lf, _⟩ := hf.opened
    have hC := Lib.hid (rafter (Later.now x.w) _ _ _ _ p (fill p t) (HP.out.below x.h) HF.out (fill_len p t) (hok.out t))
    have hnx := Lib.hid (hnext.out t htl)
    by_cases hlast : t + 1 < total p
    · have hnx' : Hid (nextF p (fill p t) = some (fill p (t + 1))) := Lib.hid (by rw [hnx.out, if_pos hlast])
      have hblk := Lib.hid (fun k hk => (hout.block k hk).2)
      have hl2 : (fill p (t + 1)).length ≤ 17592186044416 := by rw [fill_len, hlen.out]; omega
      go_wp2_with (first | (go_at_call 156; refine (ends_next_on x hnx'.out hC.out).mono ?_; rintro e w' ⟨v, rfl, y, rfl, hy, hown⟩; replace hout := hout.later hy; obtain ⟨ag, cg, rfl⟩ := owns_slice hown) | (at_builtin; refine wpList_appL y rfl _ _ rfl _ _ (by rfl) hout _ (fill p (t + 1)) (owns_off hown hl2 x.h.size hblk.out) (by rfl) (by simp; omega) ?_; intro v' z hout' hf'))
      go_roundg (total p - 1 - (t + 1))
      case measure => rw [hg.out]; omega
      case rel => exact ⟨t + 1, hlast, rfl, z, rfl, by rw [List.range_succ, List.map_append]; exact hout', hf'⟩
    · have hnx' : Hid (nextF p (fill p t) = none) := Lib.hid (by rw [hnx.out, if_neg hlast])
      go_wp2_with (first | (go_at_call 156; refine (ends_none_on x hnx'.out hC.out).mono ?_; rintro e w' ⟨rfl, y, rfl, hy⟩; replace hout := hout.later hy))
      go_ret
      have et : t + 1 = total p := by omega
      rw [et] at hout
      obtain ⟨z, hz⟩ := y.down hb1
      refine ⟨_, rfl, z, hz, hz ▸ ?_⟩
      exact (hout.is (by simp; omega) (Nat.le_refl _)).mono hb1.size
end Go.Proofs.Ytmpkbolabdmkkaa
