/- CONTRACT of the reference's proves, at leaves. -/
import Derived.Test.YtmpkbolabdmkkaaZRfP
namespace Go.Proofs.Ytmpkbolabdmkkaa
open Go.RowKit

set_option maxRecDepth 100000 in
set_option maxHeartbeats 8000000 in
theorem rproves_leaf {W A : World} (p : Prob) (v0 v1 v2 vt k vf : Value) (vs : List Value) (t : List (List Bool)) (B : Nat) (kd ix : Int) (ks : List Nd) (c : List Int) (hk1 : kd ≠ 1) (hp : IsProb W v0 v1 v2 p) (hval : validP p = true) (hT : PvAt W A B vt vs t) (hk : IsNd W k (.mk kd ix ks)) (hf : IsInts (wout (fun q => decide (q < B)) A) vf c)
    (ht1 : t.length = p.opts.length) (ht2 : ∀ i, (nth t i).length = (nth p.opts i).length) (hcl : c.length ≤ p.opts.length) (hco : ∀ i, i < c.length → 0 ≤ nth c i ∧ nth c i < (nth p.opts i).length) :
    Calls Try.prog 123 #[.agg #[v0, v1, v2], .agg #[.int .i64 kd, .int .i64 ix, k], vf, vt] A (PvEnd W A B vt vs t p (.mk kd ix ks) c) := by
  obtain ⟨ak, ck, rfl, lk, _⟩ := hk.opened
  change ks.length ≤ _ at lk
  obtain ⟨af, cf, rfl, lf, _⟩ := (hf.cov (cov_all _ _)).opened
  obtain ⟨ap, cp, rfl, lp, _⟩ := hp.panes.opened
  obtain ⟨ao, co, rfl, lo, _⟩ := hp.opts.opened
  obtain ⟨ar, cr, rfl, lr, _⟩ := hp.rules.opened
  obtain ⟨at_, ct, rfl⟩ : ∃ a c, vt = .slice a p.opts.length c := by
    obtain ⟨y, _, ht⟩ := hT.tab
    obtain ⟨a, c, h⟩ := ht.slice
    rw [ht1] at h
    exact ⟨a, c, h⟩
  show Calls Try.prog 123 #[.agg #[.slice ap p.panes.length cp, .slice ao p.opts.length co, .slice ar p.rules.length cr], .agg #[.int .i64 kd, .int .i64 ix, .slice ak ks.length ck], .slice af c.length cf, .slice at_ p.opts.length ct] (Later.now A).w _
  generalize Later.now A = x
  go_enter Try.func123, Try.ntmps123
  go_upto_region 1 with (fail)
  obtain ⟨A1, x1, e1, hb1, s1, p0, p1, p2⟩ := enter3 x (.slice ap p.panes.length cp) (.slice ao p.opts.length co) (.slice ar p.rules.length cr) 26
  rw [show x.w.heap.size + 1 = x1.w.heap.size by rw [← e1]; simp, e1]
  clear e1
  obtain ⟨b4, hB4⟩ : ∃ b, x.w.heap.size = b := ⟨_, rfl⟩
  have hb4 : B ≤ b4 := by have := hT.hB; have := x.h.size; omega
  rw [hB4] at p0 p1 p2 s1 ⊢
  clear hB4
  obtain ⟨A2, x2, e2, hb2, s2, q0, q1, q2⟩ := enter3 x1 (.int .i64 kd) (.int .i64 ix) (.slice ak ks.length ck) 64
  rw [e2]
  clear e2
  obtain ⟨b5, hB5⟩ : ∃ b, x1.w.heap.size = b := ⟨_, rfl⟩
  have hb5 : B ≤ b5 := by have := hT.hB; have := x1.h.size; have := hb1.size; omega
  rw [hB5] at q0 q1 q2 s2 ⊢
  clear hB5 x1 x
  replace p0 := Later.cells hb2 p0
  replace p1 := Later.cells hb2 p1
  replace p2 := Later.cells hb2 p2
  replace s1 := Later.sizes hb2 s1
  have hbA : Below A.heap.size A A2 := hb1.trans (hb2.mono hb1.size)
  have hT2 := hT.below hbA
  have hf2 := (Kep.below (B := B) hbA).ints hf
  have hLw := hT2.later
  have HP := Lib.hid (hp.below hLw)
  have HF := Lib.hid (hf2.cov (cov_all _ _))
  have hK2 := Lib.hid (Kep.below (B := B) hbA)
  have hno : Hid (∀ y : Later A2, okN p (.mk kd ix ks) c = false → PvEnd W A B (.slice at_ p.opts.length ct) vs t p (.mk kd ix ks) c (.returned (.tuple #[.int .i64 0, .bool false])) y.w) := Lib.hid (fun y h => .inr ⟨h, rfl, ⟨⟨y.w, hLw.trans (y.h.mono hLw.size)⟩, rfl⟩, hK2.out.trans (Kep.below y.h)⟩)
  clear hf hT hk hb1 hb2 hp
  have hkq : (kd == 1) = false := by simp [hk1]
  by_cases hz : ks.length = 0
  case neg =>
    have hn : Hid (okN p (.mk kd ix ks) c = false) := Lib.hid (by rw [okN_leaf hk1, decide_eq_false hz]; rfl)
    have hzp : 0 < ks.length := by omega
    replace hz := Lib.hid hz
    go_wp2
    go_ret2
    exact hno.out _ hn.out
  have hzp : ¬ 0 < ks.length := by omega
  have hT : Hid (okN p (.mk kd ix ks) c = leafB p kd ix c) := Lib.hid (by rw [okN_leaf hk1, decide_eq_true hz, Bool.true_and])
  have hplain : Hid (kd ≠ 2 → ∀ y : Later A2, okN p (.mk kd ix ks) c = true → PvEnd W A B (.slice at_ p.opts.length ct) vs t p (.mk kd ix ks) c (.returned (.tuple #[.int .i64 0, .bool true])) y.w) := Lib.hid (fun h2 y h => .inl ⟨h, by rw [agN_leaf hk1, if_neg h2]; rfl, by rw [agN_leaf hk1, if_neg h2]; exact hT2.below y.h, hK2.out.trans (Kep.below y.h)⟩)
  have hres : Hid (kd ≠ 2 → ∀ (y : Later A2) (b : Bool), okN p (.mk kd ix ks) c = b → PvEnd W A B (.slice at_ p.opts.length ct) vs t p (.mk kd ix ks) c (.returned (.tuple #[.int .i64 0, .bool b])) y.w) := Lib.hid (fun h2 y b h => by cases b; exact hno.out y h; exact hplain.out h2 y h)
  clear hplain
  by_cases h2 : kd = 2
  · subst h2
    have hmk : Hid (∀ w', PvAt W w' B (.slice at_ p.opts.length ct) vs (markTo t c c.length) → Kep B A2 w' → okN p (.mk 2 ix ks) c = true → PvEnd W A B (.slice at_ p.opts.length ct) vs t p (.mk 2 ix ks) c (.returned (.tuple #[.int .i64 1, .bool true])) w') := Lib.hid (fun w' h1 h2 h3 => .inl ⟨h3, by rw [agN_leaf hk1]; rfl, by rw [agN_leaf hk1, if_pos rfl]; exact h1, hK2.out.trans h2⟩)
    have hleaf : Hid (leafB p 2 ix c = (decide (c.length = p.panes.length ∧ ix = 0) && agreesB p c)) := Lib.hid rfl
    replace hk1 := Lib.hid hk1
    replace hz := Lib.hid hz
    clear hres
    cases hix : (ix != 0)
    case true =>
      have hn : Hid (okN p (.mk 2 ix ks) c = false) := Lib.hid (by rw [hT.out, hleaf.out, decide_eq_false (fun h => by simp [h.2] at hix)]; rfl)
      go_wp2
      go_ret2
      exact hno.out _ hn.out
    cases hl : ((c.length : Int) != (p.panes.length : Int))
    case true =>
      have hn : Hid (okN p (.mk 2 ix ks) c = false) := Lib.hid (by rw [hT.out, hleaf.out, decide_eq_false (fun h => by simp [h.1] at hl)]; rfl)
      go_wp2
      go_ret2
      exact hno.out _ hn.out
    have h0 : c.length = p.panes.length := by simp at hl; omega
    have hfB : fillB p c = true := fillB_iff.2 ⟨h0, fun i hi => wi_iff.2 (by have := hco i hi; omega)⟩
    have hTk : Hid (okN p (.mk 2 ix ks) c = agreesB p c) := Lib.hid (by rw [hT.out, hleaf.out, decide_eq_true ⟨h0, by simpa using hix⟩, Bool.true_and])
    have hag := Lib.hid (fun y : Later A2 => ragrees y _ _ _ _ p c HP.out HF.out hval hfB)
    replace h0 := Lib.hid h0
    cases hB : agreesB p c <;> rw [hB] at hag hTk
    · go_wp2_with (go_at_call 102; refine (hag.out _).mono ?_; rintro e w' ⟨rfl, x2, rfl⟩)
      go_ret2
      exact hno.out _ hTk.out
    go_upto_region 18 with (go_at_call 102; refine (hag.out _).mono ?_; rintro e w' ⟨rfl, x2, rfl⟩)
    have hC3 := hT2.below x2.h
    have hK3 := Kep.below (B := B) x2.h
    have hco2 := Lib.hid hco
    clear hno hix hl hag hco
    go_wp2
    go_loopw [14] (fun iv wr => ∃ q : Nat, q ≤ c.length ∧ iv = .int .i64 q ∧ Kep B A2 wr ∧ PvAt W wr B (.slice at_ p.opts.length ct) vs (markTo t c q)) (fun iv _ => c.length - (intOf iv).toNat)
    case atStart => exact ⟨0, Nat.zero_le _, rfl, hK3, hC3⟩
    case round =>
      clear hC3 hK3 x2
      obtain ⟨q, hq, rfl, hkp, hpv⟩ := hrel
      by_cases hlt : q < c.length
      · obtain ⟨_, _, hqq, _, hfs⟩ := ((hkp.ints hf2).cov (cov_all _ _)).opened
        cases hqq
        obtain ⟨bf, of, rfl, hbf, c0⟩ := hfs.out q hlt
        have c0' := c0 (Later.now wr)
        have hbf' := hbf (Later.now wr)
        change wr.cell? _ = _ at c0'
        change _ < wr.heap.size at hbf'
        have hsp := markTo_shape t c q
        have hcq := hco2.out q hlt
        have hiq : q < (markTo t c q).length := by rw [hsp.1, ht1]; omega
        have hkq2 : (nth c q).toNat < (nth (markTo t c q) q).length := by rw [hsp.2, ht2]; omega
        obtain ⟨g, gc, g', gc', hv, hg, d5, hg', ⟨bb, e5⟩, f5, hlt5, hnew⟩ := hpv.mark hiq hkq2
        rw [hsp.1, ht1] at hv hiq
        rw [hsp.2, ht2] at d5 hkq2
        cases hv
        have hN := Lib.hid hnew
        have hcn := Lib.hid (hkp.trans (Kep.set (A := wr) hlt5 (nth c q).toNat (.bool true)))
        replace hpv := Lib.hid hpv
        replace hkp := Lib.hid hkp
        clear hnew hsp c0 hbf hfs
        go_wp2
        go_still_tail 9, (by kernel_rfl)
        go_wp2
        go_roundw
        case rel => exact ⟨q + 1, by omega, by go_num, hcn.out.trans (Kep.below (Below.drew (Below.refl _ _))), hN.out.below (Below.drew (Below.refl _ _))⟩
        case measure => simp [intOf]; omega
      · obtain rfl : q = c.length := by omega
        replace hpv := Lib.hid hpv
        replace hkp := Lib.hid hkp
        go_wp2
        go_ret2
        exact hmk.out _ hpv.out hkp.out hTk.out
  have g2 : (kd == 2) = false := by simp [h2]
  replace hres := Lib.hid (hres.out h2)
  by_cases h3 : kd = 3
  · subst h3
    have hleaf : Hid (leafB p 3 ix c = (decide (0 < c.length) && wi ix 0 ((c.length : Int) - 2) && decide (0 < pieceAt p c (c.length - 1) ∧ pieceAt p c ix.toNat = pieceAt p c (c.length - 1)))) := Lib.hid rfl
    replace hk1 := Lib.hid hk1
    replace hz := Lib.hid hz
    cases hw : wi ix 0 ((c.length : Int) - 2)
    · have hn : Hid (okN p (.mk 3 ix ks) c = false) := Lib.hid (by rw [hT.out, hleaf.out, hw]; simp)
      have hpw : ∀ w, Calls Try.prog 85 #[.int .i64 ix, .int .i64 0, .int .i64 ((c.length : Int) - 1 - 1)] w fun e w' => e = .returned (.bool false) ∧ w = w' := fun w => by have h := rwithin ix 0 ((c.length : Int) - 1 - 1) w; rwa [show (c.length : Int) - 1 - 1 = (c.length : Int) - 2 by omega, hw, show (c.length : Int) - 2 = (c.length : Int) - 1 - 1 by omega] at h
      replace hpw := Lib.hid hpw
      go_wp2_with (go_at_call 85; refine (hpw.out _).mono ?_; rintro e w' ⟨rfl, rfl⟩)
      go_ret2
      exact hno.out _ hn.out
    have hwi := wi_iff.1 hw
    have h0 : 0 < c.length := by omega
    obtain ⟨i0, hi0⟩ := Int.eq_ofNat_of_zero_le hwi.1
    subst hi0
    have hi0l : i0 < c.length - 1 := by omega
    obtain ⟨n1', hn1⟩ : ∃ n, n = c.length - 1 := ⟨_, rfl⟩
    have hfk := hco i0 (by omega)
    have hfl := hco n1' (by omega)
    obtain ⟨_, _, hqq, _, hfs⟩ := HF.out.opened
    cases hqq
    obtain ⟨_, _, hqq, _, hopts⟩ := HP.out.opts.opened
    cases hqq
    obtain ⟨bf, of, rfl, hbf, r0⟩ := hfs.out i0 (by omega)
    obtain ⟨_, _, he, _, r1⟩ := hfs.out n1' (by omega)
    cases he
    obtain ⟨bo, oo, rfl, hbo, uo, co0, hO⟩ := hopts.out i0 (by omega)
    obtain ⟨_, _, he, _, ul, cl0, hOl⟩ := hopts.out n1' (by omega)
    cases he
    obtain ⟨av, cv, rfl, lv, hV⟩ := hO.opened
    obtain ⟨al, cl, rfl, ll, hL⟩ := hOl.opened
    obtain ⟨bv, ov, rfl, hbv, o0, _⟩ := hV.out (nth c i0).toNat (by omega)
    obtain ⟨bl, ol, rfl, hbl, o1, _⟩ := hL.out (nth c n1').toNat (by omega)
    have e0 : (nth (nth p.opts i0) (nth c i0).toNat).piece = pieceAt p c i0 := rfl
    have e1 : (nth (nth p.opts n1') (nth c n1').toNat).piece = pieceAt p c n1' := rfl
    rw [e0] at o0
    rw [e1] at o1
    have hTk : Hid (okN p (.mk 3 i0 ks) c = (decide (0 < pieceAt p c n1') && (pieceAt p c n1' == pieceAt p c i0))) := Lib.hid (by
      rw [hT.out, hleaf.out, hw, decide_eq_true h0, ← hn1, Int.toNat_natCast, Bool.true_and, Bool.true_and, Bool.decide_and]
      congr 1
      rw [Bool.eq_iff_iff, decide_eq_true_iff, beq_iff_eq]
      exact eq_comm)
    obtain ⟨Pl, hPl⟩ : ∃ n, pieceAt p c n1' = n := ⟨_, rfl⟩
    obtain ⟨Pk, hPk⟩ : ∃ n, pieceAt p c i0 = n := ⟨_, rfl⟩
    rw [hPl] at o1 hTk
    rw [hPk] at o0 hTk
    have hsub2 : (c.length : Int) - 1 = (n1' : Int) := by omega
    have hn1l : n1' < c.length := by omega
    have hi0l2 : i0 < c.length := by omega
    have hn1o : n1' < p.opts.length := by omega
    have hi0o : i0 < p.opts.length := by omega
    have hw2 : wi (i0 : Int) 0 ((n1' : Int) - 1) = true := by rw [show (n1' : Int) - 1 = (c.length : Int) - 2 by omega]; exact hw
    replace hn1 := Lib.hid hn1
    replace hPl := Lib.hid hPl
    replace hPk := Lib.hid hPk
    replace hwi := Lib.hid hwi
    clear hV hL hO hOl e0 e1 hi0l hw hno h0
    have hpw : Hid (∀ w, Calls Try.prog 85 #[.int .i64 i0, .int .i64 0, .int .i64 ((n1' : Int) - 1)] w fun e w' => e = .returned (.bool true) ∧ w = w') := Lib.hid (fun w => by have h := rwithin (i0 : Int) 0 ((n1' : Int) - 1) w; rwa [hw2] at h)
    clear hw2
    go_wp2_with (go_at_call 85; refine (hpw.out _).mono ?_; rintro e w' ⟨rfl, rfl⟩)
    refine wp_region_later x2 (by kernel_rfl) (by kernel_rfl) ?_
    repeat (go_big_quiet_step (fail))
    refine wpQuiet_nil ?_
    rintro _ ⟨x2, rfl⟩
    cases h1 : decide (0 < Pl)
    · rw [h1, Bool.false_and] at hTk
      go_wp2
      refine wp_region_later x2 (by kernel_rfl) (by kernel_rfl) ?_
      repeat (go_big_quiet_step (fail))
      refine wpQuiet_nil ?_
      rintro _ ⟨x2, rfl⟩
      go_wp2
      go_ret2
      exact hres.out _ _ hTk.out
    · rw [h1, Bool.true_and] at hTk
      cases h5 : (Pl == Pk) <;> rw [h5] at hTk
      all_goals
        go_wp2
        refine wp_region_later x2 (by kernel_rfl) (by kernel_rfl) ?_
        repeat (go_big_quiet_step (fail))
        refine wpQuiet_nil ?_
        rintro _ ⟨x2, rfl⟩
        go_wp2
        go_ret2
        exact hres.out _ _ hTk.out
  have g3 : (kd == 3) = false := by simp [h3]
  by_cases h4 : kd = 4
  · subst h4
    have hleaf : Hid (leafB p 4 ix c = (wi ix 0 ((p.rules.length : Int) - 1) && brokenB (nth p.rules ix.toNat) c)) := Lib.hid rfl
    replace hk1 := Lib.hid hk1
    replace hz := Lib.hid hz
    have hpw := Lib.hid (fun w => rwithin ix 0 ((p.rules.length : Int) - 1) w)
    cases hw : wi ix 0 ((p.rules.length : Int) - 1) <;> rw [hw] at hpw
    · have hn : Hid (okN p (.mk 4 ix ks) c = false) := Lib.hid (by rw [hT.out, hleaf.out, hw]; rfl)
      go_wp2
      refine wp_region_later x2 (by kernel_rfl) (by kernel_rfl) ?_
      repeat (go_big_quiet_step ((go_at_call 85; exact calls_same (hpw.out _))))
      refine wpQuiet_nil ?_
      rintro _ ⟨x2, rfl⟩
      go_wp2
      go_ret2
      exact hno.out _ hn.out
    have hwi := wi_iff.1 hw
    obtain ⟨i0, hi0⟩ := Int.eq_ofNat_of_zero_le hwi.1
    subst hi0
    have hlt : i0 < p.rules.length := by omega
    obtain ⟨_, _, hqq, _, hrx⟩ := HP.out.rules.opened
    cases hqq
    obtain ⟨bk, ok, rfl, hbk, u2, u3, u6, r0, r1, r2, r3, r4, r5, r6, hR⟩ := hrx.out i0 hlt
    have hbr := Lib.hid (fun y : Later A2 => rnever y _ _ _ u2 u3 u6 _ p (nth p.rules i0) c HP.out hR HF.out hval (valid_rule hval hlt) hcl)
    obtain ⟨aq, cq, rfl, _, _⟩ := hR.panes.opened
    obtain ⟨ah, ch, rfl, _, _⟩ := hR.hits.opened
    obtain ⟨ak2, ck2, rfl, _, _⟩ := hR.ok.opened
    have hTk : Hid (okN p (.mk 4 i0 ks) c = brokenB (nth p.rules i0) c) := Lib.hid (by rw [hT.out, hleaf.out, hw, Int.toNat_natCast, Bool.true_and])
    replace hwi := Lib.hid hwi
    clear hR hno
    go_wp2
    refine wp_region_later x2 (by kernel_rfl) (by kernel_rfl) ?_
    repeat (go_big_quiet_step ((first | (go_at_call 85; exact calls_same (hpw.out _)) | (go_at_call 152; exact hbr.out _))))
    refine wpQuiet_nil ?_
    rintro _ ⟨x2, rfl⟩
    go_wp2
    go_ret2
    exact hres.out _ _ hTk.out
  have g4 : (kd == 4) = false := by simp [h4]
  have hn : Hid (okN p (.mk kd ix ks) c = false) := Lib.hid (by rw [hT.out]; unfold leafB; rw [if_neg h2, if_neg h3, if_neg h4])
  replace hk1 := Lib.hid hk1
  replace h2 := Lib.hid h2
  replace h3 := Lib.hid h3
  replace h4 := Lib.hid h4
  go_wp2
  refine wp_region_later x2 (by kernel_rfl) (by kernel_rfl) ?_
  repeat (go_big_quiet_step (fail))
  refine wpQuiet_nil ?_
  rintro _ ⟨x2, rfl⟩
  go_wp2
  go_ret2
  exact hno.out _ hn.out
end Go.Proofs.Ytmpkbolabdmkkaa
