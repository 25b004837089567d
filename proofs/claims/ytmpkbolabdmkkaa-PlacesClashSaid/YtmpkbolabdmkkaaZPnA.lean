/- CONTRACT of places' struck. -/
import Derived.Test.YtmpkbolabdmkkaaZStr
import Derived.Test.YtmpkbolabdmkkaaZLawD
namespace Go.Proofs.Ytmpkbolabdmkkaa
open Go.RowKit

/-- what a lookup by a rule in a table leans on -/
theorem shp_in {p : Prob} {t : List (List Bool)} {r : Rl} (hs : Shp p t) (hv : p.opts.length = p.panes.length) (hr : ruleOK p r = true) : ∀ k, k < r.panes.length → 0 ≤ nth r.panes k ∧ (nth r.panes k).toNat < t.length := by
  rw [hs.len, hv]
  rcases ruleOK_iff.1 hr with ⟨_, hc⟩ | ⟨_, hc⟩
  · obtain ⟨_, _, h3⟩ := cnt_at hc
    intro k hk; have := h3 k hk; omega
  · obtain ⟨h1, _, _, _, h5, h6, _⟩ := pair_at hc
    intro k hk
    rcases (by omega : k = 0 ∨ k = 1) with rfl | rfl <;> omega

set_option maxRecDepth 100000 in
set_option maxHeartbeats 2000000 in
theorem pstruck {W : World} (x : Later W) (u2 u3 u6 vl : Value) (p : Prob) (r : Rl) (t : List (List Bool)) (pane o : Nat) (hr : IsRl W u2 u3 u6 r) (ht : IsBoolss W vl t) (hs : Shp p t) (hv : p.opts.length = p.panes.length) (hro : ruleOK p r = true)
    (hp : pane < p.opts.length) (ho : o < (nth p.opts pane).length) :
    Calls Try.prog 106 #[.agg #[.int .i64 r.item, .int .i64 r.kind, u2, u3, .int .i64 r.lo, .int .i64 r.hi, u6], vl, .int .i64 pane, .int .i64 o] x.w (Ends W (.bool (struckB r t pane o))) := by
  have hin := Lib.hid (shp_in hs hv hro)
  go_enter Try.func106, Try.ntmps106
  go_upto_region 1 with (fail)
  obtain ⟨W1, x1, e1, hb1, s1, p0, p1, p2, p3, p4, p5, p6⟩ := enter7 x (.int .i64 r.item) (.int .i64 r.kind) u2 u3 (.int .i64 r.lo) (.int .i64 r.hi) u6 87
  rw [e1]; clear e1
  have HQ := Lib.hid (hr.panes.below hb1)
  obtain ⟨aq, cq, rfl, lq, hq⟩ := (hr.panes.below hb1).opened
  obtain ⟨ah, ch, rfl, lh, hh⟩ := (hr.hits.below hb1).opened
  obtain ⟨ak, ck, rfl, lk, hk⟩ := (hr.ok.below hb1).opened
  obtain ⟨at_, ct, rfl, lt, htab⟩ := (ht.below hb1).opened
  clear hr ht
  have hcs := idxL_cases r.panes pane
  replace hs := Lib.hid hs
  replace hro := Lib.hid hro
  replace hv := Lib.hid hv
  replace hp := Lib.hid hp
  replace ho := Lib.hid ho
  obtain ⟨ix, hix⟩ : ∃ ix, idxL r.panes pane = ix := ⟨_, rfl⟩
  have hI := Lib.hid (fun y : Later W1 => pindexI y _ _ pane HQ.out)
  rw [hix] at hI hcs
  replace hix := Lib.hid hix
  rcases hcs with ⟨rfl, _⟩ | ⟨a, ha, rfl, hpa⟩
  · go_wp2_with (go_at_call 126; refine (hI.out x1).mono ?_; rintro e w' ⟨rfl, x1, rfl⟩)
    go_ret; exact ⟨ret_bool (struckB_out hix.out).symm, x1.down hb1⟩
  replace hpa := Lib.hid hpa
  replace ha := Lib.hid ha
  go_wp2_with (go_at_call 126; refine (hI.out x1).mono ?_; rintro e w' ⟨rfl, x1, rfl⟩)
  go_loopw [33] (fun i wr => ∃ k : Nat, k ≤ r.panes.length ∧ i = .int .i64 k ∧ (∃ y : Later W1, wr = y.w) ∧ (∀ j, j < k → nth r.panes j = (pane : Int) ∨ hasT (rowAt r t j) = true)) (fun i _ => r.panes.length - (intOf i).toNat)
  case atStart => exact ⟨0, Nat.zero_le _, rfl, ⟨x1, rfl⟩, by omega⟩
  case round =>
    clear x1
    obtain ⟨k, hkl, rfl, ⟨x, rfl⟩, hz⟩ := hrel
    replace hz := Lib.hid hz
    by_cases hlt : k < r.panes.length
    · have hdead := Lib.hid (@deadB_yes r t pane k hlt)
      obtain ⟨g1, g2⟩ := hin.out k hlt
      obtain ⟨bq, oq, rfl, hbq, c0⟩ := hq.out k hlt
      obtain ⟨bt, ot, rfl, hbt, ut, ct0, hU⟩ := htab.out _ g2
      rw [show nth t (nth r.panes k).toNat = rowAt r t k from rfl] at hU
      have HU : Hid (∀ y : Later W1, Calls Try.prog 112 #[ut, .bool true] y.w (Ends W1 (.bool (hasT (rowAt r t k))))) := Lib.hid (fun y => phasBl y _ _ true hU)
      obtain ⟨au, cu, rfl, lu, _⟩ := hU.opened
      clear hU
      cases hA : (nth r.panes k != (pane : Int))
      · go_wp2
        go_roundw
        case rel => exact ⟨k + 1, by omega, by go_num, ⟨x, rfl⟩, all_step hz.out (.inl (eq_bneI hA))⟩
        case measure => simp [intOf]; omega
      · cases hB : hasT (rowAt r t k)
        · go_wp2_with (go_at_call 112; refine (HU.out x).mono ?_; rintro e w' ⟨rfl, x, rfl⟩)
          go_ret; exact ⟨ret_bool (struckB_dead hix.out (hdead.out (ne_bneI hA) hB)).symm, x.down hb1⟩
        · go_wp2_with (go_at_call 112; refine (HU.out x).mono ?_; rintro e w' ⟨rfl, x, rfl⟩)
          go_roundw
          case rel => exact ⟨k + 1, by omega, by go_num, ⟨x, rfl⟩, all_step hz.out (.inr hB)⟩
          case measure => simp [intOf]; omega
    · obtain rfl : k = r.panes.length := by omega
      have hnd := Lib.hid (deadB_no hz.out)
      clear hz hlt
      by_cases hkind : r.kind = 2
      · have hk2 : (r.kind == 2) = true := by simp [hkind]
        have hpc : pairOK p r = true := by
          rcases ruleOK_iff.1 hro.out with h' | h'
          · omega
          · exact h'.2
        have hend := Lib.hid (@struckB_pair r t pane o a hix.out hnd.out hkind)
        obtain ⟨h1, _, _, _, h5, h6, h7, h8, h9⟩ := pair_at hpc
        replace h1 := Lib.hid h1
        replace h8 := Lib.hid h8
        replace h9 := Lib.hid h9
        clear h7 hkind
        have hyes := Lib.hid (@pairU_yes r t a o)
        have i0 := hin.out 0 (by have := h1.out; omega)
        have i1 := hin.out 1 (by have := h1.out; omega)
        have hr0 : (rowAt r t 0).length = (nth p.opts (nth r.panes 0).toNat).length := hs.out.row _ (by have := hv.out; omega)
        have hr1 : (rowAt r t 1).length = (nth p.opts (nth r.panes 1).toNat).length := hs.out.row _ (by have := hv.out; omega)
        have hlp : 1 < r.panes.length := by have := h1.out; omega
        obtain ⟨bq, oq, rfl, hbq, q0⟩ := hq.out 0 (by omega)
        obtain ⟨_, _, he, _, q1⟩ := hq.out 1 hlp
        cases he
        simp only [Nat.add_zero] at q0
        obtain ⟨bt, ot, rfl, hbt, ut0, t0, hU0⟩ := htab.out _ i0.2
        obtain ⟨_, _, he, _, ut1, t1, hU1⟩ := htab.out _ i1.2
        cases he
        obtain ⟨au0, cu0, rfl, _, hu0⟩ := hU0.opened
        obtain ⟨au1, cu1, rfl, _, hu1⟩ := hU1.opened
        rw [show nth t (nth r.panes 0).toNat = rowAt r t 0 from rfl] at t0 hu0
        rw [show nth t (nth r.panes 1).toNat = rowAt r t 1 from rfl] at t1 hu1
        replace hr0 := Lib.hid hr0
        replace hr1 := Lib.hid hr1
        clear hU0 hU1 p0 p3 p4 p5 hh lh
        rcases (show a = 0 ∨ a = 1 by have := ha.out; have := h1.out; omega) with rfl | rfl
        · have e0 : (nth r.panes 0).toNat = pane := by rw [hpa.out]; rfl
          have hok : o < r.ok.length := by rw [h8.out, e0]; exact ho.out
          have hokl : (nth r.ok o).length = (rowAt r t 1).length := by rw [h9.out o hok, hr1.out]
          obtain ⟨bk, ok, rfl, hbk, uk, k0, hK⟩ := hk.out o hok
          obtain ⟨ak, ck', rfl, _, hkr⟩ := hK.opened
          replace hokl := Lib.hid hokl
          replace e0 := Lib.hid e0
          clear hK
          go_wp2
          go_loopw [63] (fun i wr => ∃ k : Nat, k ≤ (rowAt r t 1).length ∧ i = .int .i64 k ∧ (∃ y : Later W1, wr = y.w) ∧ (∀ j, j < k → ¬ (nth (rowAt r t 1) j = true ∧ okAt r 0 o j = true))) (fun i _ => (rowAt r t 1).length - (intOf i).toNat)
          case atStart => exact ⟨0, Nat.zero_le _, rfl, ⟨x, rfl⟩, by omega⟩
          case round =>
            clear x
            obtain ⟨k, hkl, rfl, ⟨x, rfl⟩, hz⟩ := hrel
            replace hz := Lib.hid hz
            by_cases hlt : k < (rowAt r t 1).length
            · obtain ⟨b1, o1, rfl, hb1', d0⟩ := hu1.out k hlt
              have hlt2 : k < (nth r.ok o).length := by rw [hokl.out]; exact hlt
              obtain ⟨b2, o2, rfl, hb2', d1⟩ := hkr.out k hlt2
              have hno2 := Lib.hid (@pairU_no r t 0 o k hlt)
              cases hA : nth (rowAt r t 1) k <;> cases hB : nth (nth r.ok o) k <;> rw [hA] at d0 <;> rw [hB] at d1
              case true.true =>
                go_wp2
                go_ret; exact ⟨ret_bool (by rw [hend.out]; exact (hno2.out hA hB).symm), x.down hb1⟩
              all_goals
                go_wp2
                go_roundw
                case rel => exact ⟨k + 1, by omega, by go_num, ⟨x, rfl⟩, all_step hz.out (fun h => by have h1 := h.1; have h2 : nth (nth r.ok o) k = true := h.2; first | exact absurd h1 (by rw [hA]; decide) | exact absurd h2 (by rw [hB]; decide))⟩
                case measure => simp [intOf]; omega
            · obtain rfl : k = (rowAt r t 1).length := by omega
              go_wp2
              go_ret; exact ⟨ret_bool (by rw [hend.out]; exact (hyes.out hz.out).symm), x.down hb1⟩
        · have e0 : (nth r.panes 1).toNat = pane := by rw [hpa.out]; rfl
          have hok : r.ok.length = (rowAt r t 0).length := by rw [h8.out, hr0.out]
          have hokl : ∀ k, k < r.ok.length → o < (nth r.ok k).length := fun k hk => by rw [h9.out k hk, e0]; exact ho.out
          replace hok := Lib.hid hok
          replace hokl := Lib.hid hokl
          replace e0 := Lib.hid e0
          go_wp2
          go_loopw [63] (fun i wr => ∃ k : Nat, k ≤ (rowAt r t 0).length ∧ i = .int .i64 k ∧ (∃ y : Later W1, wr = y.w) ∧ (∀ j, j < k → ¬ (nth (rowAt r t 0) j = true ∧ okAt r 1 o j = true))) (fun i _ => (rowAt r t 0).length - (intOf i).toNat)
          case atStart => exact ⟨0, Nat.zero_le _, rfl, ⟨x, rfl⟩, by omega⟩
          case round =>
            clear x
            obtain ⟨k, hkl, rfl, ⟨x, rfl⟩, hz⟩ := hrel
            replace hz := Lib.hid hz
            by_cases hlt : k < (rowAt r t 0).length
            · obtain ⟨b1, o1, rfl, hb1', d0⟩ := hu0.out k hlt
              have hlt2 : k < r.ok.length := by rw [hok.out]; exact hlt
              obtain ⟨bk, ok, rfl, hbk, uk, k0, hK⟩ := hk.out k hlt2
              obtain ⟨ak, ck', rfl, _, hkr⟩ := hK.opened
              have hlt3 := hokl.out k hlt2
              obtain ⟨b2, o2, rfl, hb2', d1⟩ := hkr.out o hlt3
              have hno2 := Lib.hid (@pairU_no r t 1 o k hlt)
              cases hA : nth (rowAt r t 0) k <;> cases hB : nth (nth r.ok k) o <;> rw [hA] at d0 <;> rw [hB] at d1
              case true.true =>
                go_wp2
                go_ret; exact ⟨ret_bool (by rw [hend.out]; exact (hno2.out hA hB).symm), x.down hb1⟩
              all_goals
                go_wp2
                go_roundw
                case rel => exact ⟨k + 1, by omega, by go_num, ⟨x, rfl⟩, all_step hz.out (fun h => by have h1 := h.1; have h2 : nth (nth r.ok k) o = true := h.2; first | exact absurd h1 (by rw [hA]; decide) | exact absurd h2 (by rw [hB]; decide))⟩
                case measure => simp [intOf]; omega
            · obtain rfl : k = (rowAt r t 0).length := by omega
              go_wp2
              go_ret; exact ⟨ret_bool (by rw [hend.out]; exact (hyes.out hz.out).symm), x.down hb1⟩
      · have hk2 : (r.kind == 2) = false := by simp [hkind]
        have hpc : cntOK p r = true := by
          rcases ruleOK_iff.1 hro.out with h' | h'
          · exact h'.2
          · omega
        have hend := Lib.hid (@struckB_cnt r t pane o a hix.out hnd.out hkind)
        obtain ⟨hhl, _, hat⟩ := cnt_at hpc
        have hrow : ∀ k, k < r.panes.length → (nth r.hits k).length = (rowAt r t k).length := fun k hk => by
          rw [(hat k hk).2.2.2]; exact (hs.out.row _ (by have := hin.out k hk; have := hs.out.len; omega)).symm
        replace hhl := Lib.hid hhl
        replace hrow := Lib.hid hrow
        clear hat hkind
        go_wp2
        go_loopw [16, 17, 102] (fun lv mv i wr => ∃ k : Nat, k ≤ r.panes.length ∧ i = .int .i64 k ∧ lv = .int .i64 (leastU r t pane o k) ∧ mv = .int .i64 (mostU r t pane o k) ∧ ∃ y : Later W1, wr = y.w) (fun _ _ i _ => r.panes.length - (intOf i).toNat)
        case atStart => exact ⟨0, Nat.zero_le _, rfl, rfl, rfl, x, rfl⟩
        case round =>
          clear x
          obtain ⟨k, hkl, rfl, rfl, rfl, ⟨x, rfl⟩⟩ := hrel
          have hbd1 := leastU_bd r t pane o k
          have hbd2 := mostU_bd r t pane o k
          by_cases hlt : k < r.panes.length
          · obtain ⟨g1, g2⟩ := hin.out k hlt
            have hkh : k < r.hits.length := by rw [hhl.out]; exact hlt
            have hrk := hrow.out k hlt
            have HL : Hid (leastU r t pane o (k + 1) = if missU r t pane o k (rowAt r t k).length = true then leastU r t pane o k else leastU r t pane o k + 1) := Lib.hid rfl
            have HM : Hid (mostU r t pane o (k + 1) = if hitU r t pane o k (rowAt r t k).length = true then mostU r t pane o k + 1 else mostU r t pane o k) := Lib.hid rfl
            obtain ⟨bq, oq, rfl, hbq, c0⟩ := hq.out k hlt
            obtain ⟨bt, ot, rfl, hbt, ut, ct0, hU⟩ := htab.out _ g2
            rw [show nth t (nth r.panes k).toNat = rowAt r t k from rfl] at hU
            obtain ⟨au, cu, rfl, lu, hu⟩ := hU.opened
            obtain ⟨bh, oh, rfl, hbh, uh, ch0, hH⟩ := hh.out k hkh
            obtain ⟨avh, cvh, rfl, lvh, hhu⟩ := hH.opened
            replace hrk := Lib.hid hrk
            clear hU hH
            go_wp2
            go_loopw [20, 21, 112] (fun hv mv i wr => ∃ j : Nat, j ≤ (rowAt r t k).length ∧ i = .int .i64 j ∧ hv = .bool (hitU r t pane o k j) ∧ mv = .bool (missU r t pane o k j) ∧ ∃ y : Later W1, wr = y.w) (fun _ _ i _ => (rowAt r t k).length - (intOf i).toNat)
            case atStart => exact ⟨0, Nat.zero_le _, rfl, rfl, rfl, x, rfl⟩
            case round =>
              clear x
              obtain ⟨j, hjl, rfl, rfl, rfl, ⟨x, rfl⟩⟩ := hrel
              by_cases hjt : j < (rowAt r t k).length
              · obtain ⟨b1, o1, rfl, hb1', d0⟩ := hu.out j hjt
                have hjt2 : j < (nth r.hits k).length := by rw [hrk.out]; exact hjt
                obtain ⟨b2, o2, rfl, hb2', d1⟩ := hhu.out j hjt2
                have SH : Hid (hitU r t pane o k (j + 1) = (hitU r t pane o k j || (isAt r t pane o k j && nth (nth r.hits k) j))) := Lib.hid rfl
                have SM : Hid (missU r t pane o k (j + 1) = (missU r t pane o k j || (isAt r t pane o k j && !nth (nth r.hits k) j))) := Lib.hid rfl
                obtain ⟨hv0, hhv⟩ : ∃ b, hitU r t pane o k j = b := ⟨_, rfl⟩
                obtain ⟨mv0, hmv⟩ : ∃ b, missU r t pane o k j = b := ⟨_, rfl⟩
                rw [hhv, hmv]
                rw [hhv] at SH
                rw [hmv] at SM
                cases hP : (nth r.panes k == (pane : Int))
                · have hI : isAt r t pane o k j = nth (rowAt r t k) j := by unfold isAt; rw [if_neg (ne_beqI hP)]
                  rw [hI] at SH SM
                  cases hA : nth (rowAt r t k) j <;> cases hB : nth (nth r.hits k) j <;> cases hv0 <;> cases mv0 <;> rw [hA] at d0 SH SM <;> rw [hB] at d1 SH SM
                  all_goals
                    go_wp2
                    go_roundw
                    case rel => exact ⟨j + 1, by omega, by go_num, by rw [SH.out]; rfl, by rw [SM.out]; rfl, x, rfl⟩
                    case measure => simp [intOf]; omega
                · cases hJ : ((j : Int) == (o : Int))
                  · have hI : isAt r t pane o k j = false := by unfold isAt; rw [if_pos (eq_beqI hP), decide_eq_false (ne_beqI hJ)]
                    rw [hI] at SH SM
                    cases hv0 <;> cases mv0
                    all_goals
                      go_wp2
                      go_roundw
                      case rel => exact ⟨j + 1, by omega, by go_num, by rw [SH.out]; rfl, by rw [SM.out]; rfl, x, rfl⟩
                      case measure => simp [intOf]; omega
                  · have hI : isAt r t pane o k j = true := by unfold isAt; rw [if_pos (eq_beqI hP), decide_eq_true (eq_beqI hJ)]
                    rw [hI] at SH SM
                    cases hB : nth (nth r.hits k) j <;> cases hv0 <;> cases mv0 <;> rw [hB] at d1 SH SM
                    all_goals
                      go_wp2
                      go_roundw
                      case rel => exact ⟨j + 1, by omega, by go_num, by rw [SH.out]; rfl, by rw [SM.out]; rfl, x, rfl⟩
                      case measure => simp [intOf]; omega
              · obtain rfl : j = (rowAt r t k).length := by omega
                cases hH : hitU r t pane o k (rowAt r t k).length <;> cases hM : missU r t pane o k (rowAt r t k).length <;> rw [hH] at HM <;> rw [hM] at HL
                all_goals
                  go_wp2
                  go_roundw
                  case rel => exact ⟨k + 1, by omega, by go_num, by first | (rw [HL.out, if_pos rfl]) | (rw [HL.out, if_neg (by decide)]), by first | (rw [HM.out, if_pos rfl]) | (rw [HM.out, if_neg (by decide)]), x, rfl⟩
                  case measure => simp [intOf]; omega
          · obtain rfl : k = r.panes.length := by omega
            go_wp2
            go_ret; exact ⟨ret_bool hend.out.symm, x.down hb1⟩
end Go.Proofs.Ytmpkbolabdmkkaa
