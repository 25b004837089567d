/- CONTRACTS of the reference's sound, space, filling. -/
import Derived.Test.YtmpkbolabdmkkaaBase
import Derived.Test.YtmpkbolabdmkkaaDatb
import Derived.Test.YtmpkbolabdmkkaaRefA
namespace Go.Proofs.Ytmpkbolabdmkkaa
open Go.RowKit

set_option maxRecDepth 100000 in
set_option maxHeartbeats 1000000 in
theorem rsound {W : World} (x : Later W) (v0 v1 v2 vf : Value) (p : Prob) (f : List Int) (hp : IsProb W v0 v1 v2 p) (hf : IsInts W vf f) (hlen : f.length = p.opts.length) (hfill : ∀ i, i < f.length → 0 ≤ nth f i ∧ nth f i < (nth p.opts i).length) :
    Calls Try.prog 93 #[.agg #[v0, v1, v2], vf] x.w (Ends W (.bool (soundB p f))) := by
  replace hlen := Lib.hid hlen
  replace hfill := Lib.hid hfill
  have hbad := Lib.hid (fun i k => @soundB_bad p f i k)
  have hyes := Lib.hid (@soundB_yes p f)
  go_enter Try.func93, Try.ntmps93
  go_upto_region 1 with (fail)
  obtain ⟨W1, x1, e1, hb1, s1, p0, p1, p2⟩ := enter3 x v0 v1 v2 26
  rw [e1]; clear e1
  obtain ⟨ao, co, rfl, lo, hopts⟩ := (hp.opts.below hb1).opened
  obtain ⟨af, cf, rfl, lf, hfs⟩ := (hf.below hb1).opened
  clear hp hf
  go_wp2
  go_loopw [5] (fun i wr => ∃ k : Nat, k ≤ f.length ∧ i = .int .i64 k ∧ (∃ y : Later W1, wr = y.w) ∧ (∀ i, i < k → ∀ k, k < i → ¬ (0 < pieceAt p f i ∧ pieceAt p f i = pieceAt p f k))) (fun i _ => f.length - (intOf i).toNat)
  case atStart => exact ⟨0, Nat.zero_le _, rfl, ⟨x1, rfl⟩, by omega⟩
  case round =>
    obtain ⟨k, hk, rfl, ⟨x, rfl⟩, hout⟩ := hrel
    replace hout := Lib.hid hout
    by_cases hlt : k < f.length
    · have hko : k < p.opts.length := by have := hlen.out; omega
      have hfk := hfill.out k hlt
      obtain ⟨bf, of, rfl, hbf, c0⟩ := hfs.out k hlt
      obtain ⟨bo, oo, rfl, hbo, uo, co0, hO⟩ := hopts.out k hko
      obtain ⟨av, cv, rfl, lv, hV⟩ := hO.opened
      obtain ⟨bv, ov, rfl, hbv, d0, _, _, _⟩ := hV.out (nth f k).toNat (by omega)
      have e0 : pieceAt p f k = (nth (nth p.opts k) (nth f k).toNat).piece := rfl
      rw [← e0] at d0
      clear hV e0
      go_wp2
      go_loopw [6, 7] (fun i _ wr => ∃ m : Nat, m ≤ k ∧ i = .int .i64 m ∧ (∃ y : Later W1, wr = y.w) ∧ (∀ m', m' < m → ¬ (0 < pieceAt p f k ∧ pieceAt p f k = pieceAt p f m'))) (fun i _ _ => k - (intOf i).toNat)
      case atStart => exact ⟨0, Nat.zero_le _, rfl, ⟨x, rfl⟩, by omega⟩
      case round =>
        obtain ⟨m, hm, rfl, ⟨x, rfl⟩, hin⟩ := hrel
        replace hin := Lib.hid hin
        by_cases hlt' : m < k
        · have hmo : m < p.opts.length := by have := hlen.out; omega
          have hmf : m < f.length := by omega
          have hfm := hfill.out m hmf
          obtain ⟨_, _, he, _, c1⟩ := hfs.out m hmf
          cases he
          obtain ⟨_, _, he, _, u1, co1, hO1⟩ := hopts.out m hmo
          cases he
          obtain ⟨av1, cv1, rfl, lv1, hV1⟩ := hO1.opened
          obtain ⟨bv1, ov1, rfl, hbv1, d1, _, _, _⟩ := hV1.out (nth f m).toNat (by omega)
          have e1 : pieceAt p f m = (nth (nth p.opts m) (nth f m).toNat).piece := rfl
          rw [← e1] at d1
          clear hV1 e1
          go_wp2
          refine wp_region_later x (by kernel_rfl) (by kernel_rfl) ?_
          repeat (go_big_quiet_step (fail))
          refine wpQuiet_nil ?_
          rintro _ ⟨x, rfl⟩
          cases hA : decide (0 < pieceAt p f k)
          · go_wp2
            refine wp_region_later x (by kernel_rfl) (by kernel_rfl) ?_
            repeat (go_big_quiet_step (fail))
            refine wpQuiet_nil ?_
            rintro _ ⟨x, rfl⟩
            go_wp2
            go_roundw
            case rel => exact ⟨m + 1, by omega, by go_num, ⟨x, rfl⟩, all_step hin.out (fun h => by simp [h.1] at hA)⟩
            case measure => simp [intOf]; omega
          · go_wp2
            refine wp_region_later x (by kernel_rfl) (by kernel_rfl) ?_
            repeat (go_big_quiet_step (fail))
            refine wpQuiet_nil ?_
            rintro _ ⟨x, rfl⟩
            go_wp2
            · go_ret; exact ⟨ret_bool (hbad.out _ _ hlt hlt' (by simpa using hA) (eq_beqI (by assumption))).symm, x.down hb1⟩
            · go_roundw
              case rel => exact ⟨m + 1, by omega, by go_num, ⟨x, rfl⟩, all_step hin.out (fun h => ne_beqI (by assumption) h.2)⟩
              case measure => simp [intOf]; omega
        · obtain rfl : m = k := by omega
          go_wp2
          go_roundw
          case rel => exact ⟨m + 1, by omega, by go_num, ⟨x, rfl⟩, all_step hout.out hin.out⟩
          case measure => simp [intOf]; omega
    · obtain rfl : k = f.length := by omega
      go_wp2
      go_ret; exact ⟨ret_bool (hyes.out hout.out).symm, x.down hb1⟩

theorem rspaceTo_bd {os : List (List Opt)} (h : ∀ i, i < os.length → (nth os i).length ≤ 300) : ∀ k, k ≤ os.length → 0 ≤ rspaceTo os k ∧ rspaceTo os k ≤ 337769972052787200
  | 0, _ => ⟨by simp [rspaceTo], by simp [rspaceTo]⟩
  | k + 1, hk => by
    have := rspaceTo_bd h k (by omega)
    have h1 := h k (by omega)
    unfold rspaceTo
    split
    · rename_i h2
      refine ⟨Int.mul_nonneg this.1 (by omega), ?_⟩
      have := Int.mul_le_mul h2 (show ((nth os k).length : Int) ≤ 300 by omega) (by omega) (by decide)
      omega
    · exact this

set_option maxRecDepth 100000 in
set_option maxHeartbeats 1000000 in
theorem rspace_walk {W : World} (x : Later W) (v0 v1 v2 : Value) (p : Prob) (hp : IsProb W v0 v1 v2 p) (h300 : ∀ i, i < p.opts.length → (nth p.opts i).length ≤ 300) :
    Calls Try.prog 70 #[.agg #[v0, v1, v2]] x.w (Ends W (.int .i64 (rspace p))) := by
  have hbd := Lib.hid (rspaceTo_bd h300)
  clear h300
  go_enter Try.func70, Try.ntmps70
  go_upto_region 1 with (fail)
  obtain ⟨W1, x1, e1, hb1, s1, p0, p1, p2⟩ := enter3 x v0 v1 v2 26
  rw [e1]; clear e1
  obtain ⟨ao, co, rfl, lo, hopts⟩ := (hp.opts.below hb1).opened
  clear hp
  go_wp2
  go_loopw [3, 4] (fun n i wr => ∃ k : Nat, k ≤ p.opts.length ∧ i = .int .i64 k ∧ n = .int .i64 (rspaceTo p.opts k) ∧ (∃ y : Later W1, wr = y.w)) (fun _ i _ => p.opts.length - (intOf i).toNat)
  case atStart => exact ⟨0, Nat.zero_le _, rfl, rfl, ⟨x1, rfl⟩⟩
  case round =>
    obtain ⟨k, hk, rfl, rfl, ⟨x, rfl⟩⟩ := hrel
    have hbk := hbd.out k hk
    by_cases hlt : k < p.opts.length
    · obtain ⟨bo, oo, rfl, hbo, uo, co0, hO⟩ := hopts.out k hlt
      obtain ⟨av, cv, rfl, lv, _⟩ := hO.opened
      have hb' := hbd.out (k + 1) hlt
      have HS : Hid (rspaceTo p.opts (k + 1) = if rspaceTo p.opts k ≤ 1125899906842624 then rspaceTo p.opts k * (nth p.opts k).length else rspaceTo p.opts k) := Lib.hid rfl
      cases hA : decide (rspaceTo p.opts k ≤ 1125899906842624)
      · clear hb'
        go_wp2
        go_roundw
        case rel => exact ⟨k + 1, by omega, by go_num, by rw [HS.out, if_neg (by simpa using hA)], ⟨x, rfl⟩⟩
        case measure => simp [intOf]; omega
      · have hm : rspaceTo p.opts k * (nth p.opts k).length ≤ 337769972052787200 ∧ 0 ≤ rspaceTo p.opts k * (nth p.opts k).length := by
          rw [HS.out, if_pos (by simpa using hA)] at hb'; exact ⟨hb'.2, hb'.1⟩
        clear hb'
        go_wp2
        go_roundw
        case rel => exact ⟨k + 1, by omega, by go_num, by rw [HS.out, if_pos (by simpa using hA)], ⟨x, rfl⟩⟩
        case measure => simp [intOf]; omega
    · obtain rfl : k = p.opts.length := by omega
      go_wp2
      go_ret; exact ⟨ret_int rfl, x.down hb1⟩

set_option maxRecDepth 100000 in
set_option maxHeartbeats 1000000 in
theorem rfilling {W : World} (x : Later W) (v0 v1 v2 vf : Value) (p : Prob) (f : List Int) (hp : IsProb W v0 v1 v2 p) (hf : IsInts W vf f) (hlen : p.opts.length = p.panes.length) :
    Calls Try.prog 136 #[.agg #[v0, v1, v2], vf] x.w (Ends W (.bool (fillB p f))) := by
  replace hlen := Lib.hid hlen
  have hno := Lib.hid (@fillB_no p f)
  have hbad := Lib.hid (fun i => @fillB_bad p f i)
  have hyes := Lib.hid (@fillB_iff p f)
  go_enter Try.func136, Try.ntmps136
  go_upto_region 1 with (fail)
  obtain ⟨W1, x1, e1, hb1, s1, p0, p1, p2⟩ := enter3 x v0 v1 v2 26
  rw [e1]; clear e1
  obtain ⟨ap, cp, rfl, lp, hpanes⟩ := (hp.panes.below hb1).opened
  obtain ⟨ao, co, rfl, lo, hopts⟩ := (hp.opts.below hb1).opened
  obtain ⟨af, cf, rfl, lf, hfs⟩ := (hf.below hb1).opened
  clear hp hf
  by_cases hl : f.length = p.panes.length
  case neg =>
    replace hno := Lib.hid (hno.out hl)
    go_wp2
    all_goals (go_ret; exact ⟨ret_bool hno.out.symm, x1.down hb1⟩)
  have hl' : (f.length : Int) = p.panes.length := by omega
  replace hl := Lib.hid hl
  go_wp2
  go_loopw [5] (fun i wr => ∃ k : Nat, k ≤ f.length ∧ i = .int .i64 k ∧ (∃ y : Later W1, wr = y.w) ∧ (∀ i, i < k → wi (nth f i) 0 (((nth p.opts i).length : Int) - 1) = true)) (fun i _ => f.length - (intOf i).toNat)
  case atStart => exact ⟨0, Nat.zero_le _, rfl, ⟨x1, rfl⟩, by omega⟩
  case round =>
    obtain ⟨k, hk, rfl, ⟨x, rfl⟩, hin⟩ := hrel
    replace hin := Lib.hid hin
    by_cases hlt : k < f.length
    · have hko : k < p.opts.length := by have := hlen.out; have := hl.out; omega
      obtain ⟨bf, of, rfl, hbf, c0⟩ := hfs.out k hlt
      obtain ⟨bo, oo, rfl, hbo, uo, co0, hO⟩ := hopts.out k hko
      obtain ⟨av, cv, rfl, lv, _⟩ := hO.opened
      cases hA : wi (nth f k) 0 (((nth p.opts k).length : Int) - 1)
      · go_wp2
        refine wp_region_later x (by kernel_rfl) (by kernel_rfl) ?_
        repeat (go_big_quiet_step ((go_at_call 85; exact calls_same (rwithin _ _ _ _))))
        refine wpQuiet_nil ?_
        rintro _ ⟨x, rfl⟩
        go_wp2
        go_ret; exact ⟨ret_bool (hbad.out _ hlt hA).symm, x.down hb1⟩
      · go_wp2
        refine wp_region_later x (by kernel_rfl) (by kernel_rfl) ?_
        repeat (go_big_quiet_step ((go_at_call 85; exact calls_same (rwithin _ _ _ _))))
        refine wpQuiet_nil ?_
        rintro _ ⟨x, rfl⟩
        go_wp2
        go_roundw
        case rel => exact ⟨k + 1, by omega, by go_num, ⟨x, rfl⟩, all_step hin.out hA⟩
        case measure => simp [intOf]; omega
    · obtain rfl : k = f.length := by omega
      go_wp2
      go_ret; exact ⟨ret_bool (hyes.out.2 ⟨hl.out, hin.out⟩).symm, x.down hb1⟩
end Go.Proofs.Ytmpkbolabdmkkaa
