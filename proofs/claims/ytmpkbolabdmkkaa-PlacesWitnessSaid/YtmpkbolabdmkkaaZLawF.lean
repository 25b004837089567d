/- CONTRACT of PlacesWitness. -/
import Derived.Test.YtmpkbolabdmkkaaZLawD
import Derived.Test.YtmpkbolabdmkkaaZPmB
import Derived.Test.YtmpkbolabdmkkaaZWit
namespace Go.Proofs.Ytmpkbolabdmkkaa
open Go.RowKit

set_option maxRecDepth 100000 in
set_option maxHeartbeats 4000000 in
theorem lawWitness {W : World} (x : Later W) (v0 v1 v2 : Value) (p : Prob) (pane o : Int) (hp : IsProb W v0 v1 v2 p) : Calls Try.prog 9 #[.agg #[v0, v1, v2], .int .i64 pane, .int .i64 o] x.w (Ends W (.bool true)) := by
  go_enter Try.func9, Try.ntmps9
  go_upto_region 1 with (fail)
  obtain ⟨W1, x1, e1, hb1, s1, p0, p1, p2⟩ := enter3 x v0 v1 v2 26
  rw [e1]; clear e1
  have HP := Lib.hid (hp.below hb1)
  obtain ⟨ap, cp, rfl, lp, _⟩ := hp.panes.opened
  obtain ⟨ao, co, rfl, lo, _⟩ := hp.opts.opened
  obtain ⟨ar, cr, rfl, lr, _⟩ := hp.rules.opened
  clear hp
  go_upto_region 2 with (go_at_call 14; refine (lawake x1).mono ?_; rintro e w' ⟨rfl, x1, rfl⟩)
  go_wp2_with (fail)
  refine (llight x1 _ _ _ p HP.out).mono ?_
  rintro e w' ⟨bs, rfl, x1, rfl⟩
  cases bs
  · go_wp2
    go_ret; exact ⟨rfl, x1.down hb1⟩
  have hB := hb1
  by_cases g1 : pane < 0
  · go_wp2
    go_ret; exact ⟨rfl, x1.down hb1⟩
  by_cases g2 : (p.opts.length : Int) ≤ pane
  · go_wp2
    go_ret; exact ⟨rfl, x1.down hb1⟩
  by_cases g3 : o < 0
  · go_wp2
    go_ret; exact ⟨rfl, x1.down hb1⟩
  obtain ⟨i, rfl⟩ := Int.eq_ofNat_of_zero_le (show 0 ≤ pane by omega)
  obtain ⟨q, rfl⟩ := Int.eq_ofNat_of_zero_le (show 0 ≤ o by omega)
  have hi : i < p.opts.length := by omega
  obtain ⟨_, _, hqq, _, hopts⟩ := HP.out.opts.opened
  cases hqq
  obtain ⟨bo, oo, rfl, hbo, uo, c0, hO⟩ := hopts.out i hi
  obtain ⟨av, cv, rfl, lv, hel⟩ := hO.opened
  clear hO
  by_cases g4 : (nth p.opts i).length ≤ q
  · go_wp2
    go_ret; exact ⟨rfl, x1.down hb1⟩
  have hq : q < (nth p.opts i).length := by omega
  have hwl := @witE_large p i q hi hq
  have hws := @poss_wit p i q hi hq
  have hwa := @wit_agr p i q hi hq
  have hw03 : largeE p = 0 → witE p i q = 0 ∨ witE p i q = 3 := fun h => by rw [witE_small hi hq h]; split <;> simp
  go_upto_region 4 with (fail)
  clear c0 hel lv hopts hbo g4
  go_upto_region 5 with (go_at_call 46; refine (pPossible x1 _ _ _ p HP.out).mono ?_; rintro e w' ⟨u, rfl, y1, rfl, hI⟩; have I1 := Lib.hid hI; obtain ⟨a1, c1, rfl, hx1, hx2⟩ := hI; clear hx1 hx2)
  replace HP := Lib.hid (HP.out.below y1.h)
  replace p0 := Later.cells y1.h p0
  replace p1 := Later.cells y1.h p1
  replace p2 := Later.cells y1.h p2
  replace s1 := Later.sizes y1.h s1
  replace hB := below_then hB y1
  show Code.wp _ _ _ _ (Later.now y1.w).w
  generalize Later.now y1.w = xb
  go_upto_region 6 with (go_at_call 16; refine (pWitness xb _ _ _ p i q HP.out).mono ?_; rintro e w' ⟨u, rfl, y2, rfl, hI⟩; have I2 := Lib.hid hI; obtain ⟨a2, c2, rfl, hx1, hx2⟩ := hI; clear hx1 hx2)
  replace HP := Lib.hid (HP.out.below y2.h)
  replace p0 := Later.cells y2.h p0
  replace p1 := Later.cells y2.h p1
  replace p2 := Later.cells y2.h p2
  replace s1 := Later.sizes y2.h s1
  replace I1 := Lib.hid (I1.out.below y2.h)
  replace hB := below_then hB y2
  show Code.wp _ _ _ _ (Later.now y2.w).w
  generalize Later.now y2.w = xb
  by_cases h0 : largeE p = 0
  case neg =>
    have hb0 : (largeE p != 0) = true := by simp [h0]
    have hge : (witE p i q == largeE p) = true := by rw [hwl h0]; simp
    clear hwl hws hwa hw03
    go_wp2
    go_ret; exact ⟨rfl, ⟨xb.w, below_then hB xb⟩, rfl⟩
  have hb0 : (largeE p != 0) = false := by simp [h0]
  replace hws := hws h0
  replace hwa := hwa h0
  replace hw03 := hw03 h0
  obtain ⟨hv, _⟩ := largeE_0.1 h0
  have hps : possL p = possT p := by simp [possL, h0]
  rw [hps] at I1 ⊢
  have hpl := possT_length p
  have hprow := Lib.hid (fun j => @possT_rowlen p j)
  have hTh := Lib.hid (fun piece j => @thereTo_all p hv piece j)
  have hWh := Lib.hid (fun piece n j => @whereTo_at p piece n j)
  have hpo := Lib.hid (fun hz => @piece_ok p hv i q hi hq hz)
  have hwE := Lib.hid (fun piece hw => @whereE_0 p piece h0 hw)
  have hlen := Lib.hid (valid_len hv)
  have hmm := Lib.hid (fun f hf => @agr_mem p hv f hf)
  replace hps := Lib.hid hps
  rw [hpl] at ⊢
  replace hpl := Lib.hid hpl
  clear hwl
  replace hws := Lib.hid hws
  replace h0 := Lib.hid h0
  obtain ⟨P, hPd⟩ : ∃ P, P = (nth (nth p.opts i) q).piece := ⟨_, rfl⟩
  rw [← hPd] at hpo
  obtain ⟨_, _, hqq, _, hopts⟩ := HP.out.opts.opened
  cases hqq
  obtain ⟨b', o', he, hbo, uo, c0, hO⟩ := hopts.out i hi
  cases he
  obtain ⟨av, cv, rfl, lv, hel⟩ := hO.opened
  clear hO
  obtain ⟨be, oe, rfl, hbe, d0, _⟩ := hel.out q hq
  rw [← hPd] at d0
  replace hPd := Lib.hid hPd
  obtain ⟨_, _, hqq, _, htab⟩ := I1.out.opened
  rw [hpl.out] at hqq htab
  cases hqq
  obtain ⟨bt, ot, rfl, hbt, ut, t0, hTr⟩ := htab.out i hi
  obtain ⟨ar1, cr1, rfl, _, hrow⟩ := hTr.opened
  have hrl := hprow.out i hi
  rw [hrl] at t0 hrow
  replace hrl := Lib.hid hrl
  clear hTr
  obtain ⟨br, or_, rfl, hbr, r0⟩ := hrow.out q hq
  clear hrow hel
  have hbase : Hid (∀ y : Later y2.w, Ends W (.bool true) (.returned (.bool true)) y.w) := Lib.hid (fun y => ⟨rfl, ⟨y.w, below_then hB y⟩, rfl⟩)
  rcases hw03 with hw | hw
  · have hws' := hws.out
    rw [hw] at hws'
    rw [hws'] at r0
    have hag := hwa hw
    have hmf := hmm.out _ hag.1
    have hagr : Hid (agrB p (witL p i q) = true ∧ wrongC p (witL p i q) = 0) := Lib.hid (by have h9 := wrongC_0 hv hmf.1; exact ⟨by simp [agrB, h9, hmf.2.2.2], h9⟩)
    have hfl : (witL p i q).length = p.opts.length := hmf.2.1
    have hfi := hag.2
    replace hmf := Lib.hid hmf
    replace hag := Lib.hid hag
    clear hws'
    obtain ⟨_, _, hqq, _, hw2⟩ := I2.out.opened
    cases hqq
    obtain ⟨bw, ow, rfl, hbw, w0⟩ := hw2.out i (by rw [hfl]; exact hi)
    rw [hfi] at w0
    have HF := Lib.hid I2.out
    rw [hfl] at HF ⊢
    replace hfl := Lib.hid hfl
    replace hfi := Lib.hid hfi
    go_wp2
    refine wp_region_later xb (by kernel_rfl) (by kernel_rfl) ?_
    repeat (go_big_quiet_step (fail))
    refine wpQuiet_nil ?_
    rintro _ ⟨xb, rfl⟩
    go_upto_region 14 with (go_at_call 41; refine (pAgrees xb _ _ _ _ p (witL p i q) HP.out HF.out).mono ?_; rw [hagr.out.1, hagr.out.2]; rintro e w' ⟨rfl, xb, rfl⟩)
    by_cases hP0 : P = 0
    · go_wp2
      go_ret; exact hbase.out _
    have hwi := hpo.out hP0
    have hWE := Lib.hid (hwE.out _ hwi)
    have hWL : whereL p P = whereTo p P p.panes.length := by unfold whereL; rw [if_pos hWE.out]
    replace hWL := Lib.hid hWL
    clear hwi
    go_upto_region 18 with (go_at_call 47; refine (pWhere xb _ _ _ p P HP.out).mono ?_; rw [hWE.out, hWL.out]; rintro e w' ⟨u, rfl, y3, rfl, hI⟩; have I3 := Lib.hid hI; obtain ⟨a3, c3, rfl, hx1, hx2⟩ := hI; clear hx1 hx2)
    replace HP := Lib.hid (HP.out.below y3.h)
    replace p0 := Later.cells y3.h p0
    replace p1 := Later.cells y3.h p1
    replace p2 := Later.cells y3.h p2
    replace s1 := Later.sizes y3.h s1
    replace I1 := Lib.hid (I1.out.below y3.h)
    have hbase2 : Hid (∀ y : Later y3.w, Ends W (.bool true) (.returned (.bool true)) y.w) := Lib.hid (fun y => ⟨rfl, ⟨y.w, below_then hB ⟨y.w, below_then y3.h y⟩⟩, rfl⟩)
    show Code.wp _ _ _ _ (Later.now y3.w).w
    generalize Later.now y3.w = xb
    clear hopts htab hbo hbt hbe hbr hbase r0 t0 d0 c0
    obtain ⟨_, _, hqq, _, hopts⟩ := HP.out.opts.opened
    cases hqq
    obtain ⟨_, _, hqq, _, hpan⟩ := HP.out.panes.opened
    cases hqq
    obtain ⟨_, _, hqq, _, htab⟩ := I1.out.opened
    rw [hpl.out] at hqq htab
    cases hqq
    obtain ⟨_, _, hqq, _, hl3⟩ := I3.out.opened
    cases hqq
    have hl1 := fun n => @whereTo_len1 p P n
    have hwl := fun n => whereTo_len p P n
    replace hl1 := Lib.hid hl1
    replace hwl := Lib.hid hwl
    have h64 := valid_pane64 hv
    go_wp2
    go_loopw [18, 19] (fun kv j wr => ∃ n : Nat, n ≤ p.opts.length ∧ j = .int .i64 n ∧ kv = .int .i64 (whereTo p P n).length ∧ ∃ y : Later y3.w, wr = y.w) (fun _ j _ => p.opts.length - (intOf j).toNat)
    case atStart => exact ⟨0, Nat.zero_le _, rfl, rfl, xb, rfl⟩
    case round =>
      clear xb
      obtain ⟨n, hn, rfl, rfl, y, rfl⟩ := hrel
      by_cases hlt : n < p.opts.length
      · obtain ⟨b1, o1, he, hbo, u1, c0, hO⟩ := hopts.out n hlt
        cases he
        obtain ⟨av1, cv1, rfl, lv1, hel⟩ := hO.opened
        clear hO
        obtain ⟨b2, o2, he, hbt, u2, t0, hTr⟩ := htab.out n hlt
        cases he
        obtain ⟨at1, ct1, rfl, _, hrow⟩ := hTr.opened
        have hrl1 := hprow.out n hlt
        rw [hrl1] at t0 hrow
        replace hrl1 := Lib.hid hrl1
        clear hTr
        have hThn := hTh.out P n hlt
        have hnp : n < p.panes.length := by have := hlen.out; omega
        have hWn := Lib.hid (fun h => hWh.out P p.panes.length n hnp h)
        have hl1n := hl1.out n
        have hwln := hwl.out n
        obtain ⟨kk, hkk⟩ : ∃ kk, kk = (whereTo p P n).length := ⟨_, rfl⟩
        rw [← hkk] at hl1n hWn hwln ⊢
        replace hl1n := Lib.hid hl1n
        replace hkk := Lib.hid hkk
        replace hThn := Lib.hid hThn
        have h0t := thereTo_0 p P n
        replace h0t := Lib.hid h0t
        go_wp2
        go_loopw [20, 21] (fun tv ov w' => ∃ m : Nat, m ≤ (nth p.opts n).length ∧ ov = .int .i64 m ∧ tv = .bool (thereTo p P n m) ∧ ∃ y : Later y3.w, w' = y.w) (fun _ ov _ => (nth p.opts n).length - (intOf ov).toNat)
        case atStart => exact ⟨0, Nat.zero_le _, rfl, by rw [h0t.out], y, rfl⟩
        case round =>
          clear y
          obtain ⟨m, hm, rfl, rfl, y, rfl⟩ := hrel
          by_cases hltm : m < (nth p.opts n).length
          · obtain ⟨be1, oe1, rfl, hbe1, d0, _⟩ := hel.out m hltm
            obtain ⟨br1, or1, rfl, hbr1, r0⟩ := hrow.out m hltm
            have hS := Lib.hid (thereTo_succ p P n m)
            obtain ⟨pp, hpp⟩ : ∃ pp, pp = (nth (nth p.opts n) m).piece := ⟨_, rfl⟩
            obtain ⟨tt, htt⟩ : ∃ tt, tt = nth (nth (possT p) n) m := ⟨_, rfl⟩
            obtain ⟨th, hth⟩ : ∃ th, th = thereTo p P n m := ⟨_, rfl⟩
            rw [← hpp] at hS d0
            rw [← htt] at hS r0
            rw [← hth] at hS ⊢
            clear hpp htt hth
            cases th <;> cases tt <;> cases hB : (pp == P)
            all_goals
              go_wp2
              go_roundw
              case rel => exact ⟨m + 1, by omega, by go_num, by rw [hS.out, hB]; rfl, y, rfl⟩
              case measure => simp [intOf]; omega
          · obtain rfl : m = (nth p.opts n).length := by omega
            cases hF : foundTo p P n (agr p).length
            · have hth : thereTo p P n (nth p.opts n).length = false := by rw [hThn.out, hF]
              rw [hth]
              replace hth := Lib.hid hth
              go_wp2
              refine wp_region_later y (by kernel_rfl) (by kernel_rfl) ?_
              repeat (go_big_quiet_step (fail))
              refine wpQuiet_nil ?_
              rintro _ ⟨y, rfl⟩
              go_wp2
              go_roundw
              case rel => exact ⟨n + 1, by omega, by go_num, by rw [hl1n.out, hF, if_neg (by decide)], y, rfl⟩
              case measure => simp [intOf]; omega
            · have hth : thereTo p P n (nth p.opts n).length = true := by rw [hThn.out, hF]
              rw [hth]
              replace hth := Lib.hid hth
              obtain ⟨g1, g2⟩ := hWn.out hF
              obtain ⟨b3, o3, rfl, hb3, l0⟩ := hl3.out kk g1
              have g3 : ¬ (whereTo p P p.panes.length).length ≤ kk := by omega
              have g4 : decide ((whereTo p P p.panes.length).length ≤ kk) = false := by simp; omega
              have g5 : decide (((whereTo p P p.panes.length).length : Int) ≤ (kk : Int)) = false := by simp; omega
              obtain ⟨b4, o4, rfl, hb4, n0⟩ := hpan.out n hnp
              rw [g2] at l0
              clear g2
              go_wp2
              refine wp_region_later y (by kernel_rfl) (by kernel_rfl) ?_
              repeat (go_big_quiet_step (fail))
              refine wpQuiet_nil ?_
              rintro _ ⟨y, rfl⟩
              go_wp2
              go_roundw
              case rel => exact ⟨n + 1, by omega, by go_num, by rw [hl1n.out, hF, if_pos rfl]; go_num, y, rfl⟩
              case measure => simp [intOf]; omega
      · obtain rfl : n = p.opts.length := by omega
        have hEq : whereTo p P p.opts.length = whereTo p P p.panes.length := by rw [hlen.out]
        rw [hEq]
        clear hEq
        go_wp2
        go_ret; exact hbase2.out _
  · have hws' := hws.out
    rw [hw] at hws'
    rw [show ((3 : Int) == 0) = false from rfl] at hws'
    rw [hws'] at r0
    clear hws'
    go_wp2
    refine wp_region_later xb (by kernel_rfl) (by kernel_rfl) ?_
    repeat (go_big_quiet_step (fail))
    refine wpQuiet_nil ?_
    rintro _ ⟨xb, rfl⟩
    go_upto_region 14 with (fail)
    by_cases hP0 : P = 0
    · go_wp2
      go_ret; exact hbase.out _
    have hwi := hpo.out hP0
    have hWE := Lib.hid (hwE.out _ hwi)
    have hWL : whereL p P = whereTo p P p.panes.length := by unfold whereL; rw [if_pos hWE.out]
    replace hWL := Lib.hid hWL
    clear hwi
    go_upto_region 18 with (go_at_call 47; refine (pWhere xb _ _ _ p P HP.out).mono ?_; rw [hWE.out, hWL.out]; rintro e w' ⟨u, rfl, y3, rfl, hI⟩; have I3 := Lib.hid hI; obtain ⟨a3, c3, rfl, hx1, hx2⟩ := hI; clear hx1 hx2)
    replace HP := Lib.hid (HP.out.below y3.h)
    replace p0 := Later.cells y3.h p0
    replace p1 := Later.cells y3.h p1
    replace p2 := Later.cells y3.h p2
    replace s1 := Later.sizes y3.h s1
    replace I1 := Lib.hid (I1.out.below y3.h)
    have hbase2 : Hid (∀ y : Later y3.w, Ends W (.bool true) (.returned (.bool true)) y.w) := Lib.hid (fun y => ⟨rfl, ⟨y.w, below_then hB ⟨y.w, below_then y3.h y⟩⟩, rfl⟩)
    show Code.wp _ _ _ _ (Later.now y3.w).w
    generalize Later.now y3.w = xb
    clear hopts htab hbo hbt hbe hbr hbase r0 t0 d0 c0
    obtain ⟨_, _, hqq, _, hopts⟩ := HP.out.opts.opened
    cases hqq
    obtain ⟨_, _, hqq, _, hpan⟩ := HP.out.panes.opened
    cases hqq
    obtain ⟨_, _, hqq, _, htab⟩ := I1.out.opened
    rw [hpl.out] at hqq htab
    cases hqq
    obtain ⟨_, _, hqq, _, hl3⟩ := I3.out.opened
    cases hqq
    have hl1 := fun n => @whereTo_len1 p P n
    have hwl := fun n => whereTo_len p P n
    replace hl1 := Lib.hid hl1
    replace hwl := Lib.hid hwl
    have h64 := valid_pane64 hv
    go_wp2
    go_loopw [18, 19] (fun kv j wr => ∃ n : Nat, n ≤ p.opts.length ∧ j = .int .i64 n ∧ kv = .int .i64 (whereTo p P n).length ∧ ∃ y : Later y3.w, wr = y.w) (fun _ j _ => p.opts.length - (intOf j).toNat)
    case atStart => exact ⟨0, Nat.zero_le _, rfl, rfl, xb, rfl⟩
    case round =>
      clear xb
      obtain ⟨n, hn, rfl, rfl, y, rfl⟩ := hrel
      by_cases hlt : n < p.opts.length
      · obtain ⟨b1, o1, he, hbo, u1, c0, hO⟩ := hopts.out n hlt
        cases he
        obtain ⟨av1, cv1, rfl, lv1, hel⟩ := hO.opened
        clear hO
        obtain ⟨b2, o2, he, hbt, u2, t0, hTr⟩ := htab.out n hlt
        cases he
        obtain ⟨at1, ct1, rfl, _, hrow⟩ := hTr.opened
        have hrl1 := hprow.out n hlt
        rw [hrl1] at t0 hrow
        replace hrl1 := Lib.hid hrl1
        clear hTr
        have hThn := hTh.out P n hlt
        have hnp : n < p.panes.length := by have := hlen.out; omega
        have hWn := Lib.hid (fun h => hWh.out P p.panes.length n hnp h)
        have hl1n := hl1.out n
        have hwln := hwl.out n
        obtain ⟨kk, hkk⟩ : ∃ kk, kk = (whereTo p P n).length := ⟨_, rfl⟩
        rw [← hkk] at hl1n hWn hwln ⊢
        replace hl1n := Lib.hid hl1n
        replace hkk := Lib.hid hkk
        replace hThn := Lib.hid hThn
        have h0t := thereTo_0 p P n
        replace h0t := Lib.hid h0t
        go_wp2
        go_loopw [20, 21] (fun tv ov w' => ∃ m : Nat, m ≤ (nth p.opts n).length ∧ ov = .int .i64 m ∧ tv = .bool (thereTo p P n m) ∧ ∃ y : Later y3.w, w' = y.w) (fun _ ov _ => (nth p.opts n).length - (intOf ov).toNat)
        case atStart => exact ⟨0, Nat.zero_le _, rfl, by rw [h0t.out], y, rfl⟩
        case round =>
          clear y
          obtain ⟨m, hm, rfl, rfl, y, rfl⟩ := hrel
          by_cases hltm : m < (nth p.opts n).length
          · obtain ⟨be1, oe1, rfl, hbe1, d0, _⟩ := hel.out m hltm
            obtain ⟨br1, or1, rfl, hbr1, r0⟩ := hrow.out m hltm
            have hS := Lib.hid (thereTo_succ p P n m)
            obtain ⟨pp, hpp⟩ : ∃ pp, pp = (nth (nth p.opts n) m).piece := ⟨_, rfl⟩
            obtain ⟨tt, htt⟩ : ∃ tt, tt = nth (nth (possT p) n) m := ⟨_, rfl⟩
            obtain ⟨th, hth⟩ : ∃ th, th = thereTo p P n m := ⟨_, rfl⟩
            rw [← hpp] at hS d0
            rw [← htt] at hS r0
            rw [← hth] at hS ⊢
            clear hpp htt hth
            cases th <;> cases tt <;> cases hB : (pp == P)
            all_goals
              go_wp2
              go_roundw
              case rel => exact ⟨m + 1, by omega, by go_num, by rw [hS.out, hB]; rfl, y, rfl⟩
              case measure => simp [intOf]; omega
          · obtain rfl : m = (nth p.opts n).length := by omega
            cases hF : foundTo p P n (agr p).length
            · have hth : thereTo p P n (nth p.opts n).length = false := by rw [hThn.out, hF]
              rw [hth]
              replace hth := Lib.hid hth
              go_wp2
              refine wp_region_later y (by kernel_rfl) (by kernel_rfl) ?_
              repeat (go_big_quiet_step (fail))
              refine wpQuiet_nil ?_
              rintro _ ⟨y, rfl⟩
              go_wp2
              go_roundw
              case rel => exact ⟨n + 1, by omega, by go_num, by rw [hl1n.out, hF, if_neg (by decide)], y, rfl⟩
              case measure => simp [intOf]; omega
            · have hth : thereTo p P n (nth p.opts n).length = true := by rw [hThn.out, hF]
              rw [hth]
              replace hth := Lib.hid hth
              obtain ⟨g1, g2⟩ := hWn.out hF
              obtain ⟨b3, o3, rfl, hb3, l0⟩ := hl3.out kk g1
              have g3 : ¬ (whereTo p P p.panes.length).length ≤ kk := by omega
              have g4 : decide ((whereTo p P p.panes.length).length ≤ kk) = false := by simp; omega
              have g5 : decide (((whereTo p P p.panes.length).length : Int) ≤ (kk : Int)) = false := by simp; omega
              obtain ⟨b4, o4, rfl, hb4, n0⟩ := hpan.out n hnp
              rw [g2] at l0
              clear g2
              go_wp2
              refine wp_region_later y (by kernel_rfl) (by kernel_rfl) ?_
              repeat (go_big_quiet_step (fail))
              refine wpQuiet_nil ?_
              rintro _ ⟨y, rfl⟩
              go_wp2
              go_roundw
              case rel => exact ⟨n + 1, by omega, by go_num, by rw [hl1n.out, hF, if_pos rfl]; go_num, y, rfl⟩
              case measure => simp [intOf]; omega
      · obtain rfl : n = p.opts.length := by omega
        have hEq : whereTo p P p.opts.length = whereTo p P p.panes.length := by rw [hlen.out]
        rw [hEq]
        clear hEq
        go_wp2
        go_ret; exact hbase2.out _
end Go.Proofs.Ytmpkbolabdmkkaa
