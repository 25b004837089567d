/- CONTRACTS of the checker's leaves. -/
import Derived.Test.YtmpkbolabdmkkaaZSuH
import Derived.Test.YtmpkbolabdmkkaaZSuT
import Derived.Test.YtmpkbolabdmkkaaZSuC
namespace Go.Proofs.Ytmpkbolabdmkkaa
open Go.RowKit

/-- the check is left -/
def PanEnd (W A : World) (bc : Nat) (e : Ending) (w' : World) : Prop := e = .panicked unlawful ∧ (∃ y : Later W, w' = y.w) ∧ Chg bc A w'
def LeafEnd (W A : World) (bc sx : Nat) (v0 v1 v2 vt : Value) (vs : List Value) (N C : Nat) (t : List (List Bool)) (p : Prob) (kd ix : Int) (c : List Int) (e : Ending) (w' : World) : Prop :=
  (leafB p kd ix c = true ∧ e = .returned (.tuple #[]) ∧ ChkAt W w' bc sx v0 v1 v2 vt vs N (if kd = 2 then C + 1 else C) (if kd = 2 then markTo t c c.length else t) ∧ Chg bc A w') ∨ (leafB p kd ix c = false ∧ PanEnd W A bc e w')

set_option maxRecDepth 100000 in
set_option maxHeartbeats 4000000 in
theorem pleaf3 {W A : World} (p : Prob) (v0 v1 v2 vt k vf : Value) (vs : List Value) (t : List (List Bool)) (bc sx N C : Nat) (ix : Int) (c : List Int) (hC : ChkAt W A bc sx v0 v1 v2 vt vs N C t) (hp : IsProb W v0 v1 v2 p) (hk : isSl k) (hf : IsInts (wout (fun q => decide (q ≤ bc)) A) vf c)
    (hcl : c.length ≤ p.opts.length) (hco : ∀ i, i < c.length → 0 ≤ nth c i ∧ nth c i < (nth p.opts i).length) :
    Calls Try.prog 155 #[.pointer (some ⟨bc, 0, none⟩), .agg #[.int .i64 3, .int .i64 ix, k], vf] A (LeafEnd W A bc sx v0 v1 v2 vt vs N C t p 3 ix c) := by
  obtain ⟨ak, lk, ck, rfl⟩ := hk
  have hbA := hC.later
  have HPA := hp.below hbA
  obtain ⟨af, cf, rfl, lf, _⟩ := (hf.cov (cov_all _ _)).opened
  obtain ⟨ap, cp, rfl, lp, _⟩ := hp.panes.opened
  obtain ⟨ao, co, rfl, lo, _⟩ := hp.opts.opened
  obtain ⟨ar, cr, rfl, lr, _⟩ := hp.rules.opened
  obtain ⟨A1, hA1⟩ : ∃ V, A.alloc (.cells #[.int .i64 3, .int .i64 ix, .slice ak lk ck] 64) = V := ⟨_, rfl⟩
  have hb1 : Below A.heap.size A A1 := hA1 ▸ below_alloc1 _ _
  obtain ⟨b4, hB4⟩ : ∃ b, A.heap.size = b := ⟨_, rfl⟩
  have n4 : b4 < A1.heap.size := by rw [← hA1, ← hB4]; simp
  have n0 : ∀ y : Later A1, y.w.cell? ⟨b4, 0, none⟩ = some (.int .i64 3) := Later.cell n4 (by rw [← hA1, ← hB4]; exact World.cell?_alloc_at _ _ _ 0 rfl)
  have n1 : ∀ y : Later A1, y.w.cell? ⟨b4, 1, none⟩ = some (.int .i64 ix) := Later.cell n4 (by rw [← hA1, ← hB4]; exact World.cell?_alloc_at _ _ _ 1 rfl)
  have s4 : ∀ y : Later A1, b4 < y.w.heap.size := Later.size n4
  have hC1 := hC.below hb1
  have sc : ∀ y : Later A1, bc < y.w.heap.size := Later.size hC1.lt
  have d0 : ∀ y : Later A1, y.w.cell? ⟨bc, 0, none⟩ = some (.slice ap p.panes.length cp) := Later.cell hC1.lt hC1.c0
  have d1 : ∀ y : Later A1, y.w.cell? ⟨bc, 1, none⟩ = some (.slice ao p.opts.length co) := Later.cell hC1.lt hC1.c1
  have d2 : ∀ y : Later A1, y.w.cell? ⟨bc, 2, none⟩ = some (.slice ar p.rules.length cr) := Later.cell hC1.lt hC1.c2
  have HP := Lib.hid (HPA.below hb1)
  have HF := Lib.hid ((hf.cov (cov_all _ _)).below hb1)
  have hpan : Hid (∀ y : Later A1, leafB p 3 ix c = false → LeafEnd W A bc sx (.slice ap p.panes.length cp) (.slice ao p.opts.length co) (.slice ar p.rules.length cr) vt vs N C t p 3 ix c (.panicked unlawful) y.w) := Lib.hid (fun y h => .inr ⟨h, rfl, ⟨⟨y.w, (hbA.trans (hb1.mono hbA.size)).trans (y.h.mono (Nat.le_trans hbA.size hb1.size))⟩, rfl⟩, (Chg.below hb1).trans (Chg.below y.h)⟩)
  have hyes : Hid (∀ y : Later A1, leafB p 3 ix c = true → LeafEnd W A bc sx (.slice ap p.panes.length cp) (.slice ao p.opts.length co) (.slice ar p.rules.length cr) vt vs N C t p 3 ix c (.returned (.tuple #[])) y.w) := Lib.hid (fun y h => .inl ⟨h, rfl, by rw [if_neg (by decide), if_neg (by decide)]; exact hC1.below y.h, (Chg.below hb1).trans (Chg.below y.h)⟩)
  have hleaf : Hid (leafB p 3 ix c = (decide (0 < c.length) && wi ix 0 ((c.length : Int) - 2) && decide (0 < pieceAt p c (c.length - 1) ∧ pieceAt p c ix.toNat = pieceAt p c (c.length - 1)))) := Lib.hid rfl
  clear hC hC1 hf hp HPA hbA
  go_enter Try.func155, Try.ntmps155
  go_upto_region 1 with (fail)
  clear hA1 hB4 hb1
  show Code.wp _ _ _ _ (Later.now A1).w
  generalize Later.now A1 = x1
  by_cases h0 : 0 < c.length
  case neg =>
    have hno : Hid (leafB p 3 ix c = false) := Lib.hid (by rw [hleaf.out, decide_eq_false h0]; rfl)
    have hc0 : c.length = 0 := by omega
    replace h0 := Lib.hid h0
    go_wp2_with (go_at_call 154; refine (must_no _).mono ?_; rintro e w' ⟨rfl, rfl⟩)
    exact ⟨rfl, hpan.out _ hno.out⟩
  cases hw : wi ix 0 ((c.length : Int) - 2)
  · have hno : Hid (leafB p 3 ix c = false) := Lib.hid (by rw [hleaf.out, hw]; simp)
    have hpw : ∀ w, Calls Try.prog 94 #[.int .i64 ix, .int .i64 0, .int .i64 ((c.length : Int) - 1 - 1)] w fun e w' => e = .returned (.bool false) ∧ w = w' := fun w => by have h := pwithin ix 0 ((c.length : Int) - 1 - 1) w; rwa [show (c.length : Int) - 1 - 1 = (c.length : Int) - 2 by omega, hw, show (c.length : Int) - 2 = (c.length : Int) - 1 - 1 by omega] at h
    replace hpw := Lib.hid hpw
    go_wp2_with (first | (go_at_call 94; refine (hpw.out _).mono ?_; rintro e w' ⟨rfl, rfl⟩) | (go_at_call 154; refine (must_no _).mono ?_; rintro e w' ⟨rfl, rfl⟩))
    exact ⟨rfl, hpan.out _ hno.out⟩
  have hwi := wi_iff.1 hw
  obtain ⟨i0, hi0⟩ := Int.eq_ofNat_of_zero_le hwi.1
  subst hi0
  have hi0l : i0 < c.length - 1 := by omega
  obtain ⟨n1', hn1⟩ : ∃ n, n = c.length - 1 := ⟨_, rfl⟩
  have hfk := hco i0 (by omega)
  have hfl := hco n1' (by omega)
  obtain ⟨_, _, hqq, _, hfs⟩ := HF.out.opened
  cases hqq
  obtain ⟨_, _, hqq, _, hopts⟩ := HP.out.opts.opened
  cases hqq
  obtain ⟨bf, of, rfl, hbf, q0⟩ := hfs.out i0 (by omega)
  obtain ⟨_, _, he, _, q1⟩ := hfs.out n1' (by omega)
  cases he
  obtain ⟨bo, oo, rfl, hbo, uo, co0, hO⟩ := hopts.out i0 (by omega)
  obtain ⟨_, _, he, _, ul, cl0, hOl⟩ := hopts.out n1' (by omega)
  cases he
  obtain ⟨av, cv, rfl, lv, hV⟩ := hO.opened
  obtain ⟨al, cl, rfl, ll, hL⟩ := hOl.opened
  obtain ⟨bv, ov, rfl, hbv, p0, _⟩ := hV.out (nth c i0).toNat (by omega)
  obtain ⟨bl, ol, rfl, hbl, p1, _⟩ := hL.out (nth c n1').toNat (by omega)
  have e0 : (nth (nth p.opts i0) (nth c i0).toNat).piece = pieceAt p c i0 := rfl
  have e1 : (nth (nth p.opts n1') (nth c n1').toNat).piece = pieceAt p c n1' := rfl
  rw [e0] at p0
  rw [e1] at p1
  have hT : Hid (leafB p 3 i0 c = (decide (0 < pieceAt p c n1') && (pieceAt p c i0 == pieceAt p c n1'))) := Lib.hid (by
    rw [hleaf.out, hw, decide_eq_true h0, ← hn1, Int.toNat_natCast, Bool.true_and, Bool.true_and, Bool.decide_and]; rfl)
  obtain ⟨Pl, hPl⟩ : ∃ n, pieceAt p c n1' = n := ⟨_, rfl⟩
  obtain ⟨Pk, hPk⟩ : ∃ n, pieceAt p c i0 = n := ⟨_, rfl⟩
  rw [hPl] at p1 hT
  rw [hPk] at p0 hT
  have hsub : (c.length : Int) - 1 - 1 = (c.length : Int) - 2 := by omega
  have hsub2 : (c.length : Int) - 1 = (n1' : Int) := by omega
  have hn1l : n1' < c.length := by omega
  have hi0l2 : i0 < c.length := by omega
  have hn1o : n1' < p.opts.length := by omega
  have hi0o : i0 < p.opts.length := by omega
  replace hn1 := Lib.hid hn1
  replace hPl := Lib.hid hPl
  replace hPk := Lib.hid hPk
  replace hwi := Lib.hid hwi
  replace hsub := Lib.hid hsub
  clear hV hL hO hOl e0 e1 hi0l
  have hw2 : wi (i0 : Int) 0 ((n1' : Int) - 1) = true := by rw [show (n1' : Int) - 1 = (c.length : Int) - 2 by have := hn1.out; omega]; exact hw
  go_upto_region 13 with (first | (go_at_call 94; refine (pwithin _ _ _ _).mono ?_; rintro e w' ⟨rfl, rfl⟩; rw [hw2]) | (go_at_call 154; refine (must_yes _).mono ?_; rintro e w' ⟨rfl, rfl⟩))
  refine wp_region_later x1 (by kernel_rfl) (by kernel_rfl) ?_
  repeat (go_big_quiet_step (fail))
  refine wpQuiet_nil ?_
  rintro _ ⟨x1, rfl⟩
  go_upto_region 14 with (fail)
  go_upto_region 14 with (fail)
  cases h1 : decide (0 < Pl)
  · have hno : Hid (leafB p 3 i0 c = false) := Lib.hid (by rw [hT.out, h1]; rfl)
    refine wp_region_later_tail x1 23 (by kernel_rfl) (by kernel_rfl) ?_
    simp only [List.take_succ_cons, List.take_zero, List.drop_succ_cons, List.drop_zero]
    repeat (go_big_quiet_step (fail))
    refine wpQuiet_nil ?_
    rintro _ ⟨x1, rfl⟩
    go_wp2_with (go_at_call 154; refine (must_no _).mono ?_; rintro e w' ⟨rfl, rfl⟩)
    exact ⟨rfl, hpan.out _ hno.out⟩
  · cases h2 : (Pk == Pl)
    · have hno : Hid (leafB p 3 i0 c = false) := Lib.hid (by rw [hT.out, h1, h2]; rfl)
      refine wp_region_later_tail x1 23 (by kernel_rfl) (by kernel_rfl) ?_
      simp only [List.take_succ_cons, List.take_zero, List.drop_succ_cons, List.drop_zero]
      repeat (go_big_quiet_step (fail))
      refine wpQuiet_nil ?_
      rintro _ ⟨x1, rfl⟩
      go_wp2_with (go_at_call 154; refine (must_no _).mono ?_; rintro e w' ⟨rfl, rfl⟩)
      exact ⟨rfl, hpan.out _ hno.out⟩
    · have hyes2 : Hid (leafB p 3 i0 c = true) := Lib.hid (by rw [hT.out, h1, h2]; rfl)
      refine wp_region_later x1 (by kernel_rfl) (by kernel_rfl) ?_
      repeat (go_big_quiet_step ((go_at_call 154; exact calls_same (must_yes _))))
      refine wpQuiet_nil ?_
      rintro _ ⟨x1, rfl⟩
      go_wp2
      first | go_end0 | (refine bodyPost_ret (results_none rfl _ _ _) rfl ?_)
      exact hyes.out _ hyes2.out
end Go.Proofs.Ytmpkbolabdmkkaa
