/- CONTRACTS of the reference's free and struck. -/
import Derived.Test.YtmpkbolabdmkkaaZStu
import Derived.Test.YtmpkbolabdmkkaaZPnA
import Derived.Test.YtmpkbolabdmkkaaZh
namespace Go.Proofs.Ytmpkbolabdmkkaa
open Go.RowKit

set_option maxRecDepth 100000 in
set_option maxHeartbeats 1000000 in
theorem rfree {W : World} (x : Later W) (vl vh : Value) (l h : List Bool) (hl : IsBools W vl l) (hh : IsBools W vh h) (he : h.length = l.length) :
    Calls Try.prog 145 #[vl, vh] x.w (Ends W (.tuple #[.bool (missF l h l.length), .bool (hitF l h l.length)])) := by
  obtain ⟨al, cl, rfl, ll, hL⟩ := hl.opened
  obtain ⟨ah, ch, rfl, lh, hH⟩ := hh.opened
  clear hl hh
  replace he := Lib.hid he
  go_enter Try.func145, Try.ntmps145
  go_wp2
  go_loopw [6, 7, 8] (fun mv hv i wr => ∃ k : Nat, k ≤ l.length ∧ i = .int .i64 k ∧ mv = .bool (missF l h k) ∧ hv = .bool (hitF l h k) ∧ ∃ y : Later W, wr = y.w) (fun _ _ i _ => l.length - (intOf i).toNat)
  case atStart => exact ⟨0, Nat.zero_le _, rfl, rfl, rfl, x, rfl⟩
  case round =>
    clear x
    obtain ⟨k, hk, rfl, rfl, rfl, ⟨x, rfl⟩⟩ := hrel
    by_cases hlt : k < l.length
    · obtain ⟨b1, o1, rfl, hb1, d1⟩ := hL.out k hlt
      have hlt2 : k < h.length := by rw [he.out]; exact hlt
      obtain ⟨b2, o2, rfl, hb2, d2⟩ := hH.out k hlt2
      have SM : Hid (missF l h (k + 1) = (missF l h k || (nth l k && !nth h k))) := Lib.hid rfl
      have SH : Hid (hitF l h (k + 1) = (hitF l h k || (nth l k && nth h k))) := Lib.hid rfl
      obtain ⟨mv0, hmv⟩ : ∃ b, missF l h k = b := ⟨_, rfl⟩
      obtain ⟨hv0, hhv⟩ : ∃ b, hitF l h k = b := ⟨_, rfl⟩
      rw [hmv, hhv]
      rw [hmv] at SM
      rw [hhv] at SH
      cases hA : nth l k <;> cases hB : nth h k <;> cases mv0 <;> cases hv0 <;> rw [hA] at d1 SM SH <;> rw [hB] at d2 SM SH
      all_goals
        go_wp2
        go_roundw
        case rel => exact ⟨k + 1, by omega, by go_num, by rw [SM.out]; rfl, by rw [SH.out]; rfl, x, rfl⟩
        case measure => simp [intOf]; omega
    · obtain rfl : k = l.length := by omega
      go_wp2
      go_ret2
      exact ⟨rfl, x, rfl⟩

/-- a pair of options that keeps an option from being struck -/
def trip (r : Rl) (t : List (List Bool)) (pane o i k : Nat) : Bool :=
  nth (nth r.ok i) k && ((nth r.panes 0 == (pane : Int)) && ((i : Int) == (o : Int)) && nth (rowAt r t 1) k || (nth r.panes 1 == (pane : Int)) && ((k : Int) == (o : Int)) && nth (rowAt r t 0) i)

set_option maxRecDepth 100000 in
set_option maxHeartbeats 2000000 in
theorem rstruck {W : World} (x : Later W) (u2 u3 u6 vl : Value) (p : Prob) (r : Rl) (t : List (List Bool)) (pane o : Nat) (hr : IsRl W u2 u3 u6 r) (ht : IsBoolss W vl t) (hs : Shp p t) (hv : p.opts.length = p.panes.length) (hro : ruleOK p r = true)
    (hp : pane < p.opts.length) (ho : o < (nth p.opts pane).length) :
    Calls Try.prog 108 #[.agg #[.int .i64 r.item, .int .i64 r.kind, u2, u3, .int .i64 r.lo, .int .i64 r.hi, u6], vl, .int .i64 pane, .int .i64 o] x.w (Ends W (.bool (struckB r t pane o))) := by
  have hin := Lib.hid (shp_in hs hv hro)
  go_enter Try.func108, Try.ntmps108
  go_upto_region 1 with (fail)
  obtain ⟨W1, x1, e1, hb1, s1, p0, p1, p2, p3, p4, p5, p6⟩ := enter7 x (.int .i64 r.item) (.int .i64 r.kind) u2 u3 (.int .i64 r.lo) (.int .i64 r.hi) u6 87
  rw [e1]; clear e1
  obtain ⟨aq, cq, rfl, lq, hq⟩ := (hr.panes.below hb1).opened
  obtain ⟨ah, ch, rfl, lh, hh⟩ := (hr.hits.below hb1).opened
  obtain ⟨ak, ck, rfl, lk, hk⟩ := (hr.ok.below hb1).opened
  obtain ⟨at_, ct, rfl, lt, htab⟩ := (ht.below hb1).opened
  clear hr ht
  replace hs := Lib.hid hs
  replace hro := Lib.hid hro
  replace hv := Lib.hid hv
  replace hp := Lib.hid hp
  replace ho := Lib.hid ho
  by_cases hkind : r.kind = 2
  · have hk2 : (r.kind == 2) = true := by simp [hkind]
    have hpc : pairOK p r = true := by
      rcases ruleOK_iff.1 hro.out with h' | h'
      · omega
      · exact h'.2
    obtain ⟨h1, hx1, hx2, hx3, h5, h6, h7, h8, h9⟩ := pair_at hpc
    clear hx1 hx2 hx3
    have i0 := hin.out 0 (by omega)
    have i1 := hin.out 1 (by omega)
    have hr0 : (rowAt r t 0).length = (nth p.opts (nth r.panes 0).toNat).length := hs.out.row _ (by have := hv.out; omega)
    have hr1 : (rowAt r t 1).length = (nth p.opts (nth r.panes 1).toNat).length := hs.out.row _ (by have := hv.out; omega)
    have hokl := Lib.hid (h8.trans hr0.symm)
    have hokr := Lib.hid (fun i (hi : i < r.ok.length) => (h9 i hi).trans hr1.symm)
    have hlp : 1 < r.panes.length := by omega
    have hnone := Lib.hid (@struckB_none r t pane o)
    have htwo := Lib.hid (fun a ha h => @struckB_two r t pane o a h1 h7 hkind ha h)
    have hoA : nth r.panes 0 = (pane : Int) → o < (rowAt r t 0).length := fun e => by rw [hr0, e]; exact ho.out
    have hoB : nth r.panes 1 = (pane : Int) → o < (rowAt r t 1).length := fun e => by rw [hr1, e]; exact ho.out
    obtain ⟨bq, oq, rfl, hbq, q0⟩ := hq.out 0 (by omega)
    obtain ⟨_, _, he, _, q1⟩ := hq.out 1 hlp
    cases he
    simp only [Nat.add_zero] at q0
    obtain ⟨bt, ot, rfl, hbt, ut0, t0, hU0⟩ := htab.out _ i0.2
    obtain ⟨_, _, he, _, ut1, t1, hU1⟩ := htab.out _ i1.2
    cases he
    obtain ⟨au0, cu0, rfl, lu0, hu0⟩ := hU0.opened
    obtain ⟨au1, cu1, rfl, lu1, hu1⟩ := hU1.opened
    rw [show nth t (nth r.panes 0).toNat = rowAt r t 0 from rfl] at t0 hu0 lu0
    rw [show nth t (nth r.panes 1).toNat = rowAt r t 1 from rfl] at t1 hu1 lu1
    clear hU0 hU1 p0 p3 p4 p5 hh lh hr0 hr1 h8 h9
    cases hP0 : (nth r.panes 0 == (pane : Int))
    · cases hP1 : (nth r.panes 1 == (pane : Int))
      · have hst := hnone.out (fun k hk => by rcases (show k = 0 ∨ k = 1 by omega) with rfl | rfl; exact ne_beqI hP0; exact ne_beqI hP1)
        have hall : Hid ((∀ j, j < (rowAt r t 0).length → ∀ k, k < (rowAt r t 1).length → trip r t pane o j k = false) → struckB r t pane o = false) := Lib.hid (fun _ => hst)
        replace h1 := Lib.hid h1
        clear hst hkind
        go_wp2
        go_loopw [9] (fun iv wr => ∃ i : Nat, i ≤ (rowAt r t 0).length ∧ iv = .int .i64 i ∧ (∃ y : Later W1, wr = y.w) ∧ (∀ j, j < i → ∀ k, k < (rowAt r t 1).length → trip r t pane o j k = false)) (fun iv _ => (rowAt r t 0).length - (intOf iv).toNat)
        case atStart => exact ⟨0, Nat.zero_le _, rfl, ⟨x1, rfl⟩, by omega⟩
        case round =>
          clear x1
          obtain ⟨i, hil, rfl, ⟨x, rfl⟩, hz⟩ := hrel
          replace hz := Lib.hid hz
          by_cases hlt : i < (rowAt r t 0).length
          · go_wp2
            go_loopw [10] (fun kv wr => ∃ k : Nat, k ≤ (rowAt r t 1).length ∧ kv = .int .i64 k ∧ (∃ y : Later W1, wr = y.w) ∧ (∀ j, j < k → trip r t pane o i j = false)) (fun kv _ => (rowAt r t 1).length - (intOf kv).toNat)
            case atStart => exact ⟨0, Nat.zero_le _, rfl, ⟨x, rfl⟩, by omega⟩
            case round =>
              clear x
              obtain ⟨k, hkl, rfl, ⟨x, rfl⟩, hz2⟩ := hrel
              replace hz2 := Lib.hid hz2
              by_cases hlt2 : k < (rowAt r t 1).length
              · have hlok : i < r.ok.length := by rw [hokl.out]; exact hlt
                have hlok2 : k < (nth r.ok i).length := by rw [hokr.out i hlok]; exact hlt2
                obtain ⟨bk, ok, rfl, hbk, uk, k0, hK⟩ := hk.out i hlok
                obtain ⟨ak, ck', rfl, _, hkr⟩ := hK.opened
                obtain ⟨bw, ow, rfl, hbw, d0⟩ := hkr.out k hlok2
                obtain ⟨b0, o0, rfl, hb0', r0⟩ := hu0.out i hlt
                obtain ⟨b1, o1, rfl, hb1', r1⟩ := hu1.out k hlt2
                clear hK
                cases hA : nth (nth r.ok i) k <;> rw [hA] at d0
                · go_wp2
                  go_roundw
                  case rel => exact ⟨k + 1, by omega, by go_num, ⟨x, rfl⟩, all_step hz2.out (by simp [trip, hA])⟩
                  case measure => simp [intOf]; omega
                · go_wp2
                  go_roundw
                  case rel => exact ⟨k + 1, by omega, by go_num, ⟨x, rfl⟩, all_step hz2.out (by simp [trip, hP0, hP1])⟩
                  case measure => simp [intOf]; omega
              · obtain rfl : k = (rowAt r t 1).length := by omega
                go_wp2
                go_roundw
                case rel => exact ⟨i + 1, by omega, by go_num, ⟨x, rfl⟩, all_step hz.out hz2.out⟩
                case measure => simp [intOf]; omega
          · obtain rfl : i = (rowAt r t 0).length := by omega
            go_wp2
            go_ret; exact ⟨ret_bool (hall.out hz.out).symm, x.down hb1⟩
      · have hst := htwo.out 1 (by omega) (eq_beqI hP1)
        have hno : Hid (∀ i, i < (rowAt r t 0).length → nth (rowAt r t 0) i = true → nth (nth r.ok i) o = true → struckB r t pane o = false) := Lib.hid (fun i hi h2 h3 => by rw [hst]; exact pairU_no (a := 1) hi h2 h3)
        have hall : Hid ((∀ j, j < (rowAt r t 0).length → ∀ k, k < (rowAt r t 1).length → trip r t pane o j k = false) → struckB r t pane o = true) := Lib.hid (fun hh => by
          rw [hst]
          refine pairU_yes (a := 1) fun j hj h2 => ?_
          have h3 := hh j hj o (hoB (eq_beqI hP1))
          have h4 : nth (nth r.ok j) o = true := h2.2
          have h5 : nth (rowAt r t 0) j = true := h2.1
          simp [trip, hP1, h4, h5] at h3)
        replace h1 := Lib.hid h1
        clear hst hkind
        go_wp2
        go_loopw [9] (fun iv wr => ∃ i : Nat, i ≤ (rowAt r t 0).length ∧ iv = .int .i64 i ∧ (∃ y : Later W1, wr = y.w) ∧ (∀ j, j < i → ∀ k, k < (rowAt r t 1).length → trip r t pane o j k = false)) (fun iv _ => (rowAt r t 0).length - (intOf iv).toNat)
        case atStart => exact ⟨0, Nat.zero_le _, rfl, ⟨x1, rfl⟩, by omega⟩
        case round =>
          clear x1
          obtain ⟨i, hil, rfl, ⟨x, rfl⟩, hz⟩ := hrel
          replace hz := Lib.hid hz
          by_cases hlt : i < (rowAt r t 0).length
          · go_wp2
            go_loopw [10] (fun kv wr => ∃ k : Nat, k ≤ (rowAt r t 1).length ∧ kv = .int .i64 k ∧ (∃ y : Later W1, wr = y.w) ∧ (∀ j, j < k → trip r t pane o i j = false)) (fun kv _ => (rowAt r t 1).length - (intOf kv).toNat)
            case atStart => exact ⟨0, Nat.zero_le _, rfl, ⟨x, rfl⟩, by omega⟩
            case round =>
              clear x
              obtain ⟨k, hkl, rfl, ⟨x, rfl⟩, hz2⟩ := hrel
              replace hz2 := Lib.hid hz2
              by_cases hlt2 : k < (rowAt r t 1).length
              · have hlok : i < r.ok.length := by rw [hokl.out]; exact hlt
                have hlok2 : k < (nth r.ok i).length := by rw [hokr.out i hlok]; exact hlt2
                obtain ⟨bk, ok, rfl, hbk, uk, k0, hK⟩ := hk.out i hlok
                obtain ⟨ak, ck', rfl, _, hkr⟩ := hK.opened
                obtain ⟨bw, ow, rfl, hbw, d0⟩ := hkr.out k hlok2
                obtain ⟨b0, o0, rfl, hb0', r0⟩ := hu0.out i hlt
                obtain ⟨b1, o1, rfl, hb1', r1⟩ := hu1.out k hlt2
                clear hK
                cases hA : nth (nth r.ok i) k <;> rw [hA] at d0
                · go_wp2
                  go_roundw
                  case rel => exact ⟨k + 1, by omega, by go_num, ⟨x, rfl⟩, all_step hz2.out (by simp [trip, hA])⟩
                  case measure => simp [intOf]; omega
                · cases hI : ((k : Int) == (o : Int))
                  · go_wp2
                    go_roundw
                    case rel => exact ⟨k + 1, by omega, by go_num, ⟨x, rfl⟩, all_step hz2.out (by simp [trip, hP0, hP1, hI])⟩
                    case measure => simp [intOf]; omega
                  · cases hR : nth (rowAt r t 0) i <;> rw [hR] at r0
                    · go_wp2
                      go_roundw
                      case rel => exact ⟨k + 1, by omega, by go_num, ⟨x, rfl⟩, all_step hz2.out (by simp [trip, hP0, hP1, hR])⟩
                      case measure => simp [intOf]; omega
                    · have hyes := hno.out i hlt hR (by have := eq_beq hI; subst this; exact hA)
                      replace hyes := Lib.hid hyes
                      go_wp2
                      go_ret; exact ⟨ret_bool hyes.out.symm, x.down hb1⟩
              · obtain rfl : k = (rowAt r t 1).length := by omega
                go_wp2
                go_roundw
                case rel => exact ⟨i + 1, by omega, by go_num, ⟨x, rfl⟩, all_step hz.out hz2.out⟩
                case measure => simp [intOf]; omega
          · obtain rfl : i = (rowAt r t 0).length := by omega
            go_wp2
            go_ret; exact ⟨ret_bool (hall.out hz.out).symm, x.down hb1⟩
    · have hP1 : (nth r.panes 1 == (pane : Int)) = false := by
        cases h : (nth r.panes 1 == (pane : Int))
        · rfl
        · exact absurd ((eq_beqI hP0).trans (eq_beqI h).symm) h7
      · have hst := htwo.out 0 (by omega) (eq_beqI hP0)
        have hno : Hid (∀ k, k < (rowAt r t 1).length → nth (rowAt r t 1) k = true → nth (nth r.ok o) k = true → struckB r t pane o = false) := Lib.hid (fun k hk h2 h3 => by rw [hst]; exact pairU_no (a := 0) hk h2 h3)
        have hall : Hid ((∀ j, j < (rowAt r t 0).length → ∀ k, k < (rowAt r t 1).length → trip r t pane o j k = false) → struckB r t pane o = true) := Lib.hid (fun hh => by
          rw [hst]
          refine pairU_yes (a := 0) fun j hj h2 => ?_
          have h3 := hh o (hoA (eq_beqI hP0)) j hj
          have h4 : nth (nth r.ok o) j = true := h2.2
          have h5 : nth (rowAt r t 1) j = true := h2.1
          simp [trip, hP0, h4, h5] at h3)
        replace h1 := Lib.hid h1
        clear hst hkind
        go_wp2
        go_loopw [9] (fun iv wr => ∃ i : Nat, i ≤ (rowAt r t 0).length ∧ iv = .int .i64 i ∧ (∃ y : Later W1, wr = y.w) ∧ (∀ j, j < i → ∀ k, k < (rowAt r t 1).length → trip r t pane o j k = false)) (fun iv _ => (rowAt r t 0).length - (intOf iv).toNat)
        case atStart => exact ⟨0, Nat.zero_le _, rfl, ⟨x1, rfl⟩, by omega⟩
        case round =>
          clear x1
          obtain ⟨i, hil, rfl, ⟨x, rfl⟩, hz⟩ := hrel
          replace hz := Lib.hid hz
          by_cases hlt : i < (rowAt r t 0).length
          · go_wp2
            go_loopw [10] (fun kv wr => ∃ k : Nat, k ≤ (rowAt r t 1).length ∧ kv = .int .i64 k ∧ (∃ y : Later W1, wr = y.w) ∧ (∀ j, j < k → trip r t pane o i j = false)) (fun kv _ => (rowAt r t 1).length - (intOf kv).toNat)
            case atStart => exact ⟨0, Nat.zero_le _, rfl, ⟨x, rfl⟩, by omega⟩
            case round =>
              clear x
              obtain ⟨k, hkl, rfl, ⟨x, rfl⟩, hz2⟩ := hrel
              replace hz2 := Lib.hid hz2
              by_cases hlt2 : k < (rowAt r t 1).length
              · have hlok : i < r.ok.length := by rw [hokl.out]; exact hlt
                have hlok2 : k < (nth r.ok i).length := by rw [hokr.out i hlok]; exact hlt2
                obtain ⟨bk, ok, rfl, hbk, uk, k0, hK⟩ := hk.out i hlok
                obtain ⟨ak, ck', rfl, _, hkr⟩ := hK.opened
                obtain ⟨bw, ow, rfl, hbw, d0⟩ := hkr.out k hlok2
                obtain ⟨b0, o0, rfl, hb0', r0⟩ := hu0.out i hlt
                obtain ⟨b1, o1, rfl, hb1', r1⟩ := hu1.out k hlt2
                clear hK
                cases hA : nth (nth r.ok i) k <;> rw [hA] at d0
                · go_wp2
                  go_roundw
                  case rel => exact ⟨k + 1, by omega, by go_num, ⟨x, rfl⟩, all_step hz2.out (by simp [trip, hA])⟩
                  case measure => simp [intOf]; omega
                · cases hI : ((i : Int) == (o : Int))
                  · go_wp2
                    go_roundw
                    case rel => exact ⟨k + 1, by omega, by go_num, ⟨x, rfl⟩, all_step hz2.out (by simp [trip, hP0, hP1, hI])⟩
                    case measure => simp [intOf]; omega
                  · cases hR : nth (rowAt r t 1) k <;> rw [hR] at r1
                    · go_wp2
                      go_roundw
                      case rel => exact ⟨k + 1, by omega, by go_num, ⟨x, rfl⟩, all_step hz2.out (by simp [trip, hP0, hP1, hR])⟩
                      case measure => simp [intOf]; omega
                    · have hyes := hno.out k hlt2 hR (by have := eq_beq hI; subst this; exact hA)
                      replace hyes := Lib.hid hyes
                      go_wp2
                      go_ret; exact ⟨ret_bool hyes.out.symm, x.down hb1⟩
              · obtain rfl : k = (rowAt r t 1).length := by omega
                go_wp2
                go_roundw
                case rel => exact ⟨i + 1, by omega, by go_num, ⟨x, rfl⟩, all_step hz.out hz2.out⟩
                case measure => simp [intOf]; omega
          · obtain rfl : i = (rowAt r t 0).length := by omega
            go_wp2
            go_ret; exact ⟨ret_bool (hall.out hz.out).symm, x.down hb1⟩
  · have hk2 : (r.kind == 2) = false := by simp [hkind]
    have hpc : cntOK p r = true := by
      rcases ruleOK_iff.1 hro.out with h' | h'
      · exact h'.2
      · omega
    obtain ⟨hhl, hok0, hat⟩ := cnt_at hpc
    clear hok0
    have hrow : ∀ k, k < r.panes.length → (nth r.hits k).length = (rowAt r t k).length := fun k hk => by
      rw [(hat k hk).2.2.2]; exact (hs.out.row _ (by have := hin.out k hk; have := hs.out.len; omega)).symm
    have hon : ∀ k, k < r.panes.length → nth r.panes k = (pane : Int) → o < (rowAt r t k).length := fun k hk e => by
      rw [← hrow k hk, (hat k hk).2.2.2, e]; exact ho.out
    have hend := Lib.hid (@struckB_ref r t pane o hkind hon)
    replace hon := Lib.hid hon
    replace hhl := Lib.hid hhl
    replace hrow := Lib.hid hrow
    clear hat hkind
    go_wp2
    go_loopw [11, 12, 13, 14, 15] (fun lv mv tv ev i wr => ∃ k : Nat, k ≤ r.panes.length ∧ i = .int .i64 k ∧ lv = .int .i64 (leastU r t pane o k) ∧ mv = .int .i64 (mostU r t pane o k) ∧ tv = .bool (thereU r pane k) ∧ ev = .bool (emptyU r t pane o k) ∧ ∃ y : Later W1, wr = y.w) (fun _ _ _ _ i _ => r.panes.length - (intOf i).toNat)
    case atStart => exact ⟨0, Nat.zero_le _, rfl, rfl, rfl, rfl, rfl, x1, rfl⟩
    case round =>
      clear x1
      obtain ⟨k, hkl, rfl, rfl, rfl, rfl, rfl, ⟨x, rfl⟩⟩ := hrel
      have hbd1 := leastU_bd r t pane o k
      have hbd2 := mostU_bd r t pane o k
      by_cases hlt : k < r.panes.length
      · obtain ⟨g1, g2⟩ := hin.out k hlt
        have hkh : k < r.hits.length := by rw [hhl.out]; exact hlt
        have hrk := hrow.out k hlt
        have HL : Hid (leastU r t pane o (k + 1) = if missU r t pane o k (rowAt r t k).length = true then leastU r t pane o k else leastU r t pane o k + 1) := Lib.hid rfl
        have HM : Hid (mostU r t pane o (k + 1) = if hitU r t pane o k (rowAt r t k).length = true then mostU r t pane o k + 1 else mostU r t pane o k) := Lib.hid rfl
        have HT : Hid (thereU r pane (k + 1) = (thereU r pane k || (nth r.panes k == (pane : Int)))) := Lib.hid rfl
        have HE : Hid (emptyU r t pane o (k + 1) = (emptyU r t pane o k || (!missU r t pane o k (rowAt r t k).length && !hitU r t pane o k (rowAt r t k).length))) := Lib.hid rfl
        obtain ⟨bq, oq, rfl, hbq, c0⟩ := hq.out k hlt
        obtain ⟨bt, ot, rfl, hbt, ut, ct0, hU⟩ := htab.out _ g2
        rw [show nth t (nth r.panes k).toNat = rowAt r t k from rfl] at hU
        obtain ⟨bh, oh, rfl, hbh, uh, ch0, hH⟩ := hh.out k hkh
        have hF := Lib.hid (fun y : Later W1 => rfree y _ _ _ _ hU hH hrk)
        obtain ⟨au, cu, rfl, lu, hu⟩ := hU.opened
        obtain ⟨avh, cvh, rfl, lvh, hhu⟩ := hH.opened
        clear hU hH
        replace hrk := Lib.hid hrk
        cases hP : (nth r.panes k == (pane : Int))
        · have e := ne_beqI hP
          rw [← hitU_far (o := o) e, ← missU_far (o := o) e] at hF
          rw [hP] at HT
          obtain ⟨e0, he0⟩ : ∃ b, emptyU r t pane o k = b := ⟨_, rfl⟩
          obtain ⟨t0, ht0⟩ : ∃ b, thereU r pane k = b := ⟨_, rfl⟩
          rw [he0] at HE ⊢
          rw [ht0] at HT ⊢
          cases hM : missU r t pane o k (rowAt r t k).length <;> cases hH : hitU r t pane o k (rowAt r t k).length <;> rw [hM] at hF HL HE <;> rw [hH] at hF HM HE <;> cases e0
          all_goals
            go_wp2
            refine wp_region_later x (by kernel_rfl) (by kernel_rfl) ?_
            repeat (go_big_quiet_step ((go_at_call 145; exact hF.out _)))
            refine wpQuiet_nil ?_
            rintro _ ⟨x, rfl⟩
            go_wp2
            go_roundw
            case rel => exact ⟨k + 1, by omega, by go_num, by rw [HL.out]; simp, by rw [HM.out]; simp, by rw [HT.out, Bool.or_false], by rw [HE.out]; rfl, x, rfl⟩
            case measure => simp [intOf]; omega
        · have e := eq_beqI hP
          have hol := hon.out k hlt e
          obtain ⟨n1, n2⟩ := near_at (t := t) e hol
          rw [hP] at HT
          obtain ⟨e0, he0⟩ : ∃ b, emptyU r t pane o k = b := ⟨_, rfl⟩
          obtain ⟨t0, ht0⟩ : ∃ b, thereU r pane k = b := ⟨_, rfl⟩
          rw [he0] at HE ⊢
          rw [ht0] at HT ⊢
          have hoh : o < (nth r.hits k).length := by rw [hrk.out]; exact hol
          obtain ⟨b2, o2, rfl, hb2', d2⟩ := hhu.out o hoh
          rw [n1, n2] at HE
          rw [n1] at HM
          rw [n2] at HL
          clear n1 n2
          clear e
          cases hB : nth (nth r.hits k) o <;> rw [hB] at d2 HM HL HE <;> cases e0
          all_goals
            go_wp2
            refine wp_region_later x (by kernel_rfl) (by kernel_rfl) ?_
            repeat (go_big_quiet_step ((go_at_call 145; exact hF.out _)))
            refine wpQuiet_nil ?_
            rintro _ ⟨x, rfl⟩
            go_wp2
            go_roundw
            case rel => exact ⟨k + 1, by omega, by go_num, by rw [HL.out]; simp, by rw [HM.out]; simp, by rw [HT.out, Bool.or_true], by rw [HE.out]; rfl, x, rfl⟩
            case measure => simp [intOf]; omega
      · obtain rfl : k = r.panes.length := by omega
        cases hT : thereU r pane r.panes.length <;> cases hE : emptyU r t pane o r.panes.length <;> rw [hT, hE] at hend
        all_goals
          go_wp2
          go_ret; exact ⟨ret_bool (by rw [hend.out]; simp [cntU]), x.down hb1⟩
end Go.Proofs.Ytmpkbolabdmkkaa
