/- CONTRACT of the checker's leaf of the kind 'rule'. -/
import Derived.Test.YtmpkbolabdmkkaaZSuI
namespace Go.Proofs.Ytmpkbolabdmkkaa
open Go.RowKit

set_option maxRecDepth 100000 in
set_option maxHeartbeats 4000000 in
theorem pleaf4 {W A : World} (p : Prob) (v0 v1 v2 vt k vf : Value) (vs : List Value) (t : List (List Bool)) (bc sx N C : Nat) (ix : Int) (c : List Int) (hC : ChkAt W A bc sx v0 v1 v2 vt vs N C t) (hp : IsProb W v0 v1 v2 p) (hcap : ProbCap W v2) (hval : validP p = true) (hk : isSl k) (hf : IsInts (wout (fun q => decide (q ≤ bc)) A) vf c)
    (hco : ∀ i, i < c.length → 0 ≤ nth c i ∧ nth c i < (nth p.opts i).length) :
    Calls Try.prog 155 #[.pointer (some ⟨bc, 0, none⟩), .agg #[.int .i64 4, .int .i64 ix, k], vf] A (LeafEnd W A bc sx v0 v1 v2 vt vs N C t p 4 ix c) := by
  obtain ⟨ak, lk, ck, rfl⟩ := hk
  have hbA := hC.later
  have HPA := hp.below hbA
  obtain ⟨af, cf, rfl, lf, _⟩ := (hf.cov (cov_all _ _)).opened
  obtain ⟨ap, cp, rfl, lp, _⟩ := hp.panes.opened
  obtain ⟨ao, co, rfl, lo, _⟩ := hp.opts.opened
  obtain ⟨ar, cr, rfl, lr, _⟩ := hp.rules.opened
  obtain ⟨A1, hA1⟩ : ∃ V, A.alloc (.cells #[.int .i64 4, .int .i64 ix, .slice ak lk ck] 64) = V := ⟨_, rfl⟩
  have hb1 : Below A.heap.size A A1 := hA1 ▸ below_alloc1 _ _
  obtain ⟨b4, hB4⟩ : ∃ b, A.heap.size = b := ⟨_, rfl⟩
  have n4 : b4 < A1.heap.size := by rw [← hA1, ← hB4]; simp
  have n0 : ∀ y : Later A1, y.w.cell? ⟨b4, 0, none⟩ = some (.int .i64 4) := Later.cell n4 (by rw [← hA1, ← hB4]; exact World.cell?_alloc_at _ _ _ 0 rfl)
  have n1 : ∀ y : Later A1, y.w.cell? ⟨b4, 1, none⟩ = some (.int .i64 ix) := Later.cell n4 (by rw [← hA1, ← hB4]; exact World.cell?_alloc_at _ _ _ 1 rfl)
  have s4 : ∀ y : Later A1, b4 < y.w.heap.size := Later.size n4
  have hC1 := hC.below hb1
  have sc : ∀ y : Later A1, bc < y.w.heap.size := Later.size hC1.lt
  have d0 : ∀ y : Later A1, y.w.cell? ⟨bc, 0, none⟩ = some (.slice ap p.panes.length cp) := Later.cell hC1.lt hC1.c0
  have d1 : ∀ y : Later A1, y.w.cell? ⟨bc, 1, none⟩ = some (.slice ao p.opts.length co) := Later.cell hC1.lt hC1.c1
  have d2 : ∀ y : Later A1, y.w.cell? ⟨bc, 2, none⟩ = some (.slice ar p.rules.length cr) := Later.cell hC1.lt hC1.c2
  have HP := Lib.hid (HPA.below hb1)
  have HF := Lib.hid ((hf.cov (cov_all _ _)).below hb1)
  have hpan : Hid (∀ y : Later A1, leafB p 4 ix c = false → LeafEnd W A bc sx (.slice ap p.panes.length cp) (.slice ao p.opts.length co) (.slice ar p.rules.length cr) vt vs N C t p 4 ix c (.panicked unlawful) y.w) := Lib.hid (fun y h => .inr ⟨h, rfl, ⟨⟨y.w, (hbA.trans (hb1.mono hbA.size)).trans (y.h.mono (Nat.le_trans hbA.size hb1.size))⟩, rfl⟩, (Chg.below hb1).trans (Chg.below y.h)⟩)
  have hyes : Hid (∀ y : Later A1, leafB p 4 ix c = true → LeafEnd W A bc sx (.slice ap p.panes.length cp) (.slice ao p.opts.length co) (.slice ar p.rules.length cr) vt vs N C t p 4 ix c (.returned (.tuple #[])) y.w) := Lib.hid (fun y h => .inl ⟨h, rfl, by rw [if_neg (by decide), if_neg (by decide)]; exact hC1.below y.h, (Chg.below hb1).trans (Chg.below y.h)⟩)
  have hleaf : Hid (leafB p 4 ix c = (wi ix 0 ((p.rules.length : Int) - 1) && brokenB (nth p.rules ix.toNat) c)) := Lib.hid rfl
  have HC := Lib.hid ((hcap.below hp.rules hbA).below HPA.rules hb1)
  clear hC hC1 hf hp HPA hbA
  go_enter Try.func155, Try.ntmps155
  go_upto_region 1 with (fail)
  clear hA1 hB4 hb1
  show Code.wp _ _ _ _ (Later.now A1).w
  generalize Later.now A1 = x1
  cases hw : wi ix 0 ((p.rules.length : Int) - 1)
  · have hno : Hid (leafB p 4 ix c = false) := Lib.hid (by rw [hleaf.out, hw]; rfl)
    have hpw := Lib.hid (fun w => pwithin ix 0 ((p.rules.length : Int) - 1) w)
    rw [hw] at hpw
    go_upto_region 16 with (fail)
    refine wp_region_later_tail x1 27 (by kernel_rfl) (by kernel_rfl) ?_
    simp only [List.take_succ_cons, List.take_zero, List.drop_succ_cons, List.drop_zero]
    repeat (go_big_quiet_step ((go_at_call 94; exact calls_same (hpw.out _))))
    refine wpQuiet_nil ?_
    rintro _ ⟨x1, rfl⟩
    go_wp2_with (go_at_call 154; refine (must_no _).mono ?_; rintro e w' ⟨rfl, rfl⟩)
    exact ⟨rfl, hpan.out _ hno.out⟩
  have hwi := wi_iff.1 hw
  obtain ⟨i0, hi0⟩ := Int.eq_ofNat_of_zero_le hwi.1
  subst hi0
  have hlt : i0 < p.rules.length := by omega
  have hpw := Lib.hid (fun w => pwithin (i0 : Int) 0 ((p.rules.length : Int) - 1) w)
  rw [hw] at hpw
  replace hwi := Lib.hid hwi
  obtain ⟨_, _, hqq, _, hrx⟩ := HP.out.rules.opened
  cases hqq
  obtain ⟨bk, ok, rfl, hbk, u2, u3, u6, r0, r1, r2, r3, r4, r5, r6, hR⟩ := hrx.out i0 hlt
  obtain ⟨t3, t6⟩ := HC.out _ _ _ _ i0 u3 u6 rfl hlt (r3 (Later.now A1)) (r6 (Later.now A1))
  have hbr := Lib.hid (fun y : Later A1 => pbroken y _ _ _ u2 u3 u6 _ p (nth p.rules i0) c HP.out hR HF.out (valid_len hval) (valid_rule hval hlt) (fun i hi => ⟨(valid_opts hval hi).1, Nat.le_trans (valid_opts hval hi).2 (by decide)⟩) t3 t6 hco)
  obtain ⟨aq, cq, rfl, _, _⟩ := hR.panes.opened
  obtain ⟨ah, ch, rfl, _, _⟩ := hR.hits.opened
  obtain ⟨ak2, ck2, rfl, _, _⟩ := hR.ok.opened
  clear hR t3 t6
  have hT : Hid (leafB p 4 i0 c = brokenB (nth p.rules i0) c) := Lib.hid (by rw [hleaf.out, hw, Int.toNat_natCast, Bool.true_and])
  go_upto_region 16 with (fail)
  cases hB : brokenB (nth p.rules i0) c <;> rw [hB] at hbr hT
  · refine wp_region_later_tail x1 27 (by kernel_rfl) (by kernel_rfl) ?_
    simp only [List.take_succ_cons, List.take_zero, List.drop_succ_cons, List.drop_zero]
    repeat (go_big_quiet_step ((first | (go_at_call 94; exact calls_same (hpw.out _)) | (go_at_call 150; exact hbr.out _))))
    refine wpQuiet_nil ?_
    rintro _ ⟨x1, rfl⟩
    go_wp2_with (go_at_call 154; refine (must_no _).mono ?_; rintro e w' ⟨rfl, rfl⟩)
    exact ⟨rfl, hpan.out _ hT.out⟩
  · refine wp_region_later x1 (by kernel_rfl) (by kernel_rfl) ?_
    repeat (go_big_quiet_step ((first | (go_at_call 94; exact calls_same (hpw.out _)) | (go_at_call 150; exact hbr.out _) | (go_at_call 154; exact calls_same (must_yes _)))))
    refine wpQuiet_nil ?_
    rintro _ ⟨x1, rfl⟩
    go_wp2
    first | go_end0 | (refine bodyPost_ret (results_none rfl _ _ _) rfl ?_)
    exact hyes.out _ hT.out
end Go.Proofs.Ytmpkbolabdmkkaa
