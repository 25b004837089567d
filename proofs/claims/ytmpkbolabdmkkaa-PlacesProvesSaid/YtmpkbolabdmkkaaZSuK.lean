/- CONTRACT of the checker's leaf of the kind 'agree'. -/
import Derived.Test.YtmpkbolabdmkkaaZSuI
import Derived.Test.YtmpkbolabdmkkaaZh
namespace Go.Proofs.Ytmpkbolabdmkkaa
open Go.RowKit

set_option maxRecDepth 100000 in
set_option maxHeartbeats 4000000 in
theorem pleaf2 {W A : World} (p : Prob) (v0 v1 v2 vt k vf : Value) (vs : List Value) (t : List (List Bool)) (bc sx N C : Nat) (ix : Int) (c : List Int) (hC : ChkAt W A bc sx v0 v1 v2 vt vs N C t) (hp : IsProb W v0 v1 v2 p) (hval : validP p = true) (hCb : C ≤ 1000000) (hsh : t.length = p.opts.length ∧ ∀ i, (nth t i).length = (nth p.opts i).length) (hk : isSl k) (hf : IsInts (wout (fun q => decide (q ≤ bc)) A) vf c)
    (hcl : c.length ≤ p.opts.length) (hco : ∀ i, i < c.length → 0 ≤ nth c i ∧ nth c i < (nth p.opts i).length) :
    Calls Try.prog 155 #[.pointer (some ⟨bc, 0, none⟩), .agg #[.int .i64 2, .int .i64 ix, k], vf] A (LeafEnd W A bc sx v0 v1 v2 vt vs N C t p 2 ix c) := by
  obtain ⟨ak, lk, ck, rfl⟩ := hk
  have hbA := hC.later
  have HPA := hp.below hbA
  obtain ⟨af, cf, rfl, lf, _⟩ := (hf.cov (cov_all _ _)).opened
  obtain ⟨ap, cp, rfl, lp, _⟩ := hp.panes.opened
  obtain ⟨ao, co, rfl, lo, _⟩ := hp.opts.opened
  obtain ⟨ar, cr, rfl, lr, _⟩ := hp.rules.opened
  obtain ⟨A1, hA1⟩ : ∃ V, A.alloc (.cells #[.int .i64 2, .int .i64 ix, .slice ak lk ck] 64) = V := ⟨_, rfl⟩
  have hb1 : Below A.heap.size A A1 := hA1 ▸ below_alloc1 _ _
  obtain ⟨b4, hB4⟩ : ∃ b, A.heap.size = b := ⟨_, rfl⟩
  have n4 : b4 < A1.heap.size := by rw [← hA1, ← hB4]; simp
  have n0 : ∀ y : Later A1, y.w.cell? ⟨b4, 0, none⟩ = some (.int .i64 2) := Later.cell n4 (by rw [← hA1, ← hB4]; exact World.cell?_alloc_at _ _ _ 0 rfl)
  have n1 : ∀ y : Later A1, y.w.cell? ⟨b4, 1, none⟩ = some (.int .i64 ix) := Later.cell n4 (by rw [← hA1, ← hB4]; exact World.cell?_alloc_at _ _ _ 1 rfl)
  have s4 : ∀ y : Later A1, b4 < y.w.heap.size := Later.size n4
  have hC1 := hC.below hb1
  have sc : ∀ y : Later A1, bc < y.w.heap.size := Later.size hC1.lt
  have d0 : ∀ y : Later A1, y.w.cell? ⟨bc, 0, none⟩ = some (.slice ap p.panes.length cp) := Later.cell hC1.lt hC1.c0
  have d1 : ∀ y : Later A1, y.w.cell? ⟨bc, 1, none⟩ = some (.slice ao p.opts.length co) := Later.cell hC1.lt hC1.c1
  have d2 : ∀ y : Later A1, y.w.cell? ⟨bc, 2, none⟩ = some (.slice ar p.rules.length cr) := Later.cell hC1.lt hC1.c2
  have HP := Lib.hid (HPA.below hb1)
  have HF := Lib.hid ((hf.cov (cov_all _ _)).below hb1)
  have hpan : Hid (∀ y : Later A1, leafB p 2 ix c = false → LeafEnd W A bc sx (.slice ap p.panes.length cp) (.slice ao p.opts.length co) (.slice ar p.rules.length cr) vt vs N C t p 2 ix c (.panicked unlawful) y.w) := Lib.hid (fun y h => .inr ⟨h, rfl, ⟨⟨y.w, (hbA.trans (hb1.mono hbA.size)).trans (y.h.mono (Nat.le_trans hbA.size hb1.size))⟩, rfl⟩, (Chg.below hb1).trans (Chg.below y.h)⟩)
  have hleaf : Hid (leafB p 2 ix c = (decide (c.length = p.panes.length ∧ ix = 0) && agreesB p c)) := Lib.hid rfl
  have hCx := Lib.hid hC1
  have hAx := Lib.hid (Chg.below (bc := bc) hb1)
  have hfx := Lib.hid hf
  have hbcA := hC.lt
  clear hC hC1 hf hp HPA hbA
  go_enter Try.func155, Try.ntmps155
  go_upto_region 1 with (fail)
  clear hA1 hB4 hb1
  show Code.wp _ _ _ _ (Later.now A1).w
  generalize Later.now A1 = x1
  by_cases h0 : c.length = p.panes.length
  case neg =>
    have hno : Hid (leafB p 2 ix c = false) := Lib.hid (by rw [hleaf.out, decide_eq_false (fun h => h0 h.1)]; rfl)
    have hb0 : ((c.length : Int) == (p.panes.length : Int)) = false := by simp; omega
    replace h0 := Lib.hid h0
    go_wp2_with (go_at_call 154; refine (must_no _).mono ?_; rintro e w' ⟨rfl, rfl⟩)
    exact ⟨rfl, hpan.out _ hno.out⟩
  have hb0 : ((c.length : Int) == (p.panes.length : Int)) = true := by simp [h0]
  cases hix : (ix == 0)
  · have hno : Hid (leafB p 2 ix c = false) := Lib.hid (by rw [hleaf.out, decide_eq_false (fun h => by simp [h.2] at hix)]; rfl)
    replace h0 := Lib.hid h0
    go_wp2_with (go_at_call 154; refine (must_no _).mono ?_; rintro e w' ⟨rfl, rfl⟩)
    exact ⟨rfl, hpan.out _ hno.out⟩
  have hfB : fillB p c = true := fillB_iff.2 ⟨h0, fun i hi => wi_iff.2 (by have := hco i hi; omega)⟩
  have hT : Hid (leafB p 2 ix c = agreesB p c) := Lib.hid (by rw [hleaf.out, decide_eq_true ⟨h0, by simpa using hix⟩, Bool.true_and])
  have hag := Lib.hid (fun y : Later A1 => pagrees y _ _ _ _ p c HP.out HF.out hval hfB)
  replace h0 := Lib.hid h0
  cases hB : agreesB p c <;> rw [hB] at hag hT
  · go_wp2_with (first | (go_at_call 101; refine (hag.out _).mono ?_; rintro e w' ⟨rfl, x1, rfl⟩) | (go_at_call 154; refine (must_no _).mono ?_; rintro e w' ⟨rfl, rfl⟩))
    exact ⟨rfl, hpan.out _ hT.out⟩
  go_upto_region 4 with (first | (go_at_call 101; refine (hag.out _).mono ?_; rintro e w' ⟨rfl, x1, rfl⟩) | (go_at_call 154; refine (must_yes _).mono ?_; rintro e w' ⟨rfl, rfl⟩))
  have hC2 := hCx.out.below x1.h
  have hA2 := hAx.out.trans (Chg.below x1.h)
  have k4 := hC2.c4
  have kf := hC2.f4
  have kz := hC2.lt
  go_upto_region 5 with (fail)
  have hC3 := hC2.setCount (C + 1)
  have hA3 := hA2.trans (Chg.set (A := x1.w) (bc := bc) (Nat.le_refl _) 4 (.int .i64 ((C + 1 : Nat) : Int)))
  rw [show ((C + 1 : Nat) : Int) = (C : Int) + 1 by omega] at hC3 hA3
  obtain ⟨B, hBe⟩ : ∃ B, x1.w.setCell ⟨bc, 4, none⟩ (.int .i64 ((C : Int) + 1)) = B := ⟨_, rfl⟩
  rw [hBe] at hC3 hA3 ⊢
  clear hBe hC2 hA2 k4 kf kz x1 hag
  have hinv : Hid (∀ w', Chg bc A w' → IsInts (wout (fun q => decide (q ≤ bc)) w') (.slice af c.length cf) c) := Lib.hid (fun w' h => hfx.out.cov (cov_out h.size fun q hq hP => ⟨hP, h.block q hq (by simpa using hP)⟩))
  have hcp := Lib.hid h0.out
  have h300 := Lib.hid (fun i (hi : i < p.opts.length) => (valid_opts hval hi).2)
  have hbc1 : bc < A.heap.size := hbcA
  go_wp2
  go_loopw [46] (fun iv wr => ∃ q : Nat, q ≤ c.length ∧ iv = .int .i64 q ∧ Chg bc A wr ∧ ChkAt W wr bc sx (.slice ap p.panes.length cp) (.slice ao p.opts.length co) (.slice ar p.rules.length cr) vt vs N (C + 1) (markTo t c q)) (fun iv _ => c.length - (intOf iv).toNat)
  case atStart => exact ⟨0, Nat.zero_le _, rfl, hA3, hC3⟩
  case round =>
    clear hA3 hC3
    obtain ⟨q, hq, rfl, hchg, hchk⟩ := hrel
    by_cases hlt : q < c.length
    · obtain ⟨_, _, hqq, _, hfs⟩ := ((hinv.out _ hchg).cov (cov_all _ _)).opened
      cases hqq
      obtain ⟨bf, of, rfl, hbf, q0⟩ := hfs.out q hlt
      have q0' := q0 (Later.now wr)
      have hbf' := hbf (Later.now wr)
      change wr.cell? _ = _ at q0'
      change _ < wr.heap.size at hbf'
      have hsp := markTo_shape t c q
      have hco2 := hco q hlt
      have hiq : q < (markTo t c q).length := by rw [hsp.1, hsh.1]; omega
      have hkq : (nth c q).toNat < (nth (markTo t c q) q).length := by rw [hsp.2, hsh.2]; omega
      obtain ⟨g, gc, g', gc', hv, hg, d5, hg', ⟨bb, e5⟩, f5, hlt5, hnew⟩ := hchk.mark hiq hkq
      have k5 := hchk.c5
      have kz := hchk.lt
      rw [hv] at k5
      have hN := Lib.hid hnew
      have hcn := Lib.hid (hchg.trans (Chg.set (A := wr) (bc := bc) (Nat.le_of_lt hlt5) (nth c q).toNat (.bool true)))
      obtain ⟨R, hR⟩ : ∃ R, (markTo t c q).length = R := ⟨_, rfl⟩
      obtain ⟨R2, hR2⟩ : ∃ R2, (nth (markTo t c q) q).length = R2 := ⟨_, rfl⟩
      rw [hR] at hiq k5
      rw [hR2] at hkq d5
      replace hR := Lib.hid hR
      replace hR2 := Lib.hid hR2
      replace hv := Lib.hid hv
      replace hchk := Lib.hid hchk
      replace hchg := Lib.hid hchg
      clear hnew hsp q0 hbf hfs
      go_wp2
      go_roundw
      case rel => exact ⟨q + 1, by omega, by go_num, hcn.out, hN.out⟩
      case measure => simp [intOf]; omega
    · obtain rfl : q = c.length := by omega
      replace hchk := Lib.hid hchk
      replace hchg := Lib.hid hchg
      go_wp2
      first | go_end0 | (refine bodyPost_ret (results_none rfl _ _ _) rfl ?_)
      exact .inl ⟨hT.out, rfl, by rw [if_pos rfl, if_pos rfl]; exact hchk.out, hchg.out⟩
end Go.Proofs.Ytmpkbolabdmkkaa
