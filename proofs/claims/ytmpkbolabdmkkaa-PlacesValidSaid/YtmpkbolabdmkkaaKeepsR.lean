/- CONTRACT of the reference's keeps. -/
import Derived.Test.YtmpkbolabdmkkaaBase
import Derived.Test.YtmpkbolabdmkkaaDatb
import Derived.Test.YtmpkbolabdmkkaaRefA
namespace Go.Proofs.Ytmpkbolabdmkkaa
open Go.RowKit

/-- what a lookup of a filling by a rule leans on -/
structure Fits (p : Prob) (r : Rl) (f : List Int) : Prop where
  rule : ruleOK p r = true
  fill : ∀ i, i < f.length → 0 ≤ nth f i ∧ nth f i < (nth p.opts i).length
  len : f.length = p.panes.length

theorem fits_of {p : Prob} {f : List Int} (hv : validP p = true) (hf : fillB p f = true) {i : Nat} (hi : i < p.rules.length) : Fits p (nth p.rules i) f :=
  ⟨valid_rule hv hi, fun _ h => fill_at hf h, (fillB_iff.1 hf).1⟩

/-- the first pane of a pair, as it is looked up -/
theorem Fits.pair {p : Prob} {r : Rl} {f : List Int} (h : Fits p r f) (hk : r.kind = 2) : r.panes.length = 2 ∧ (0 ≤ nth r.panes 0 ∧ (nth r.panes 0).toNat < f.length) ∧ (0 ≤ nth r.panes 1 ∧ (nth r.panes 1).toNat < f.length) ∧
    (0 ≤ chosenAt r f 0 ∧ (chosenAt r f 0).toNat < r.ok.length) ∧ (0 ≤ chosenAt r f 1 ∧ (chosenAt r f 1).toNat < (nth r.ok (chosenAt r f 0).toNat).length) := by
  have hp : pairOK p r = true := by
    rcases ruleOK_iff.1 h.rule with h' | h'
    · omega
    · exact h'.2
  obtain ⟨h1, _, _, _, h5, h6, _, h8, h9⟩ := pair_at hp
  have hl := h.len
  have ha : (nth r.panes 0).toNat < f.length := by omega
  have hb : (nth r.panes 1).toNat < f.length := by omega
  have fa := h.fill _ ha
  have fb := h.fill _ hb
  have e0 : chosenAt r f 0 = nth f (nth r.panes 0).toNat := rfl
  have e1 : chosenAt r f 1 = nth f (nth r.panes 1).toNat := rfl
  have g0 : (chosenAt r f 0).toNat < r.ok.length := by rw [e0, h8]; omega
  exact ⟨h1, ⟨h5.1, ha⟩, ⟨h6.1, hb⟩, ⟨by rw [e0]; exact fa.1, g0⟩, ⟨by rw [e1]; exact fb.1, by rw [h9 _ g0, e1]; omega⟩⟩
theorem Fits.cnt {p : Prob} {r : Rl} {f : List Int} (h : Fits p r f) (hk : ¬ r.kind = 2) : r.hits.length = r.panes.length ∧ ∀ i, i < r.panes.length → (0 ≤ nth r.panes i ∧ (nth r.panes i).toNat < f.length) ∧ 0 ≤ chosenAt r f i ∧ (chosenAt r f i).toNat < (nth r.hits i).length := by
  have hp : cntOK p r = true := by
    rcases ruleOK_iff.1 h.rule with h' | h'
    · exact h'.2
    · omega
  obtain ⟨h1, _, h3⟩ := cnt_at hp
  refine ⟨h1, fun i hi => ?_⟩
  obtain ⟨a, b, _, d⟩ := h3 i hi
  have hl := h.len
  have ha : (nth r.panes i).toNat < f.length := by omega
  have fa := h.fill _ ha
  have e0 : chosenAt r f i = nth f (nth r.panes i).toNat := rfl
  exact ⟨⟨a, ha⟩, by rw [e0]; exact fa.1, by rw [e0, d]; omega⟩
theorem keepsB_pair {r : Rl} {f : List Int} (h : r.kind = 2) : keepsB r f = nth (nth r.ok (chosenAt r f 0).toNat) (chosenAt r f 1).toNat := by unfold keepsB; rw [if_pos h]
theorem keepsB_cnt {r : Rl} {f : List Int} (h : ¬ r.kind = 2) : keepsB r f = wi (hitsTo r f r.panes.length) r.lo r.hi := by unfold keepsB; rw [if_neg h]

set_option maxRecDepth 100000 in
set_option maxHeartbeats 1000000 in
theorem rkeeps {W : World} (x : Later W) (u2 u3 u6 vf : Value) (p : Prob) (r : Rl) (f : List Int) (hr : IsRl W u2 u3 u6 r) (hf : IsInts W vf f) (hfit : Fits p r f) :
    Calls Try.prog 98 #[.agg #[.int .i64 r.item, .int .i64 r.kind, u2, u3, .int .i64 r.lo, .int .i64 r.hi, u6], vf] x.w (Ends W (.bool (keepsB r f))) := by
  go_enter Try.func98, Try.ntmps98
  go_upto_region 1 with (fail)
  obtain ⟨W1, x1, e1, hb1, s1, p0, p1, p2, p3, p4, p5, p6⟩ := enter7 x (.int .i64 r.item) (.int .i64 r.kind) u2 u3 (.int .i64 r.lo) (.int .i64 r.hi) u6 87
  rw [e1]; clear e1
  obtain ⟨aq, cq, rfl, lq, hq⟩ := (hr.panes.below hb1).opened
  obtain ⟨ah, ch, rfl, lh, hh⟩ := (hr.hits.below hb1).opened
  obtain ⟨ak, ck, rfl, lk, hk⟩ := (hr.ok.below hb1).opened
  obtain ⟨af, cf, rfl, lf, hfs⟩ := (hf.below hb1).opened
  clear hr hf
  by_cases hkind : r.kind = 2
  · have hkp := Lib.hid (@keepsB_pair r f hkind)
    obtain ⟨h1, ⟨h2, h2'⟩, ⟨h3, h3'⟩, ⟨h4, h4'⟩, ⟨h5, h5'⟩⟩ := hfit.pair hkind
    have hk2 : (r.kind == 2) = true := by simp [hkind]
    have h1' : 1 < r.panes.length := by omega
    replace h1 := Lib.hid h1
    clear hkind hfit
    obtain ⟨bq, oq, rfl, hbq, c0⟩ := hq.out 0 (by omega)
    obtain ⟨_, _, he, _, c1⟩ := hq.out 1 (by omega)
    cases he
    simp only [Nat.add_zero] at c0
    obtain ⟨bf, of, rfl, hbf, d0⟩ := hfs.out _ h2'
    obtain ⟨_, _, he, _, d1⟩ := hfs.out _ h3'
    cases he
    rw [show nth f (nth r.panes 0).toNat = chosenAt r f 0 from rfl] at d0
    rw [show nth f (nth r.panes 1).toNat = chosenAt r f 1 from rfl] at d1
    obtain ⟨bk, ok, rfl, hbk, uk, ck0, hU⟩ := hk.out _ h4'
    obtain ⟨au, cu, rfl, lu, hu⟩ := hU.opened
    obtain ⟨bu, ou, rfl, hbu, cu0⟩ := hu.out _ h5'
    clear hU hu hq hfs hk
    go_wp2
    refine wp_region_later x1 (by kernel_rfl) (by kernel_rfl) ?_
    repeat (go_big_quiet_step (fail))
    refine wpQuiet_nil ?_
    rintro _ ⟨x1, rfl⟩
    go_wp2
    go_ret; exact ⟨ret_bool hkp.out.symm, x1.down hb1⟩
  · have hkp := Lib.hid (@keepsB_cnt r f hkind)
    obtain ⟨h1, h2⟩ := hfit.cnt hkind
    have hk2 : (r.kind == 2) = false := by simp [hkind]
    replace h1 := Lib.hid h1
    replace h2 := Lib.hid h2
    clear hkind hfit
    go_wp2
    go_loopw [5, 6] (fun n i wr => ∃ k : Nat, k ≤ r.panes.length ∧ i = .int .i64 k ∧ n = .int .i64 (hitsTo r f k) ∧ (∃ y : Later W1, wr = y.w)) (fun _ i _ => r.panes.length - (intOf i).toNat)
    case atStart => exact ⟨0, Nat.zero_le _, rfl, rfl, ⟨x1, rfl⟩⟩
    case round =>
      obtain ⟨k, hkl, rfl, rfl, ⟨x, rfl⟩⟩ := hrel
      by_cases hlt : k < r.panes.length
      · obtain ⟨⟨g1, g1'⟩, g2, g2'⟩ := h2.out k hlt
        have hkh : k < r.hits.length := by have := h1.out; omega
        have hbd := hitsTo_bd r f k
        have HS : Hid (hitsTo r f (k + 1) = if hitAt r f k = true then hitsTo r f k + 1 else hitsTo r f k) := Lib.hid rfl
        obtain ⟨bq, oq, rfl, hbq, c0⟩ := hq.out k hlt
        obtain ⟨bf, of, rfl, hbf, d0⟩ := hfs.out _ g1'
        rw [show nth f (nth r.panes k).toNat = chosenAt r f k from rfl] at d0
        obtain ⟨bh, oh, rfl, hbh, uh, ch0, hU⟩ := hh.out k hkh
        obtain ⟨au, cu, rfl, lu, hu⟩ := hU.opened
        obtain ⟨bu, ou, rfl, hbu, cu0⟩ := hu.out _ g2'
        rw [show nth (nth r.hits k) (chosenAt r f k).toNat = hitAt r f k from rfl] at cu0
        clear hU hu
        go_wp2
        refine wp_region_later x (by kernel_rfl) (by kernel_rfl) ?_
        repeat (go_big_quiet_step (fail))
        refine wpQuiet_nil ?_
        rintro _ ⟨x, rfl⟩
        cases hA : hitAt r f k <;> go_wp2
        · go_roundw
          case rel => exact ⟨k + 1, by omega, by go_num, by rw [HS.out, if_neg (by simp [hA])], ⟨x, rfl⟩⟩
          case measure => simp [intOf]; omega
        · go_roundw
          case rel => exact ⟨k + 1, by omega, by go_num, by rw [HS.out, if_pos hA], ⟨x, rfl⟩⟩
          case measure => simp [intOf]; omega
      · obtain rfl : k = r.panes.length := by omega
        go_wp2_with (go_at_call 85; refine (rwithin _ _ _ _).mono ?_; rintro e w' ⟨rfl, rfl⟩)
        go_ret; exact ⟨ret_bool hkp.out.symm, x.down hb1⟩
end Go.Proofs.Ytmpkbolabdmkkaa
