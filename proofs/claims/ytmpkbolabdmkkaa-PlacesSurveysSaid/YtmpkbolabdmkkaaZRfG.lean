/- CONTRACT of the reference's Check. -/
import Derived.Test.YtmpkbolabdmkkaaZRfD
import Derived.Test.YtmpkbolabdmkkaaZq
import Derived.Test.YtmpkbolabdmkkaaZSuM
import Derived.Test.YtmpkbolabdmkkaaZc
import Derived.Test.YtmpkbolabdmkkaaZk
namespace Go.Proofs.Ytmpkbolabdmkkaa
open Go.RowKit

set_option maxRecDepth 100000 in
set_option maxHeartbeats 4000000 in
theorem rCheck {W : World} (x : Later W) (v0 v1 v2 k : Value) (p : Prob) (n : Nd) (hp : IsProb W v0 v1 v2 p) (hk : IsNd W k n) (hN : szN n ≤ 200000) :
    Calls Try.prog 63 #[.agg #[v0, v1, v2], .agg #[.int .i64 n.kind, .int .i64 n.index, k]] x.w (EndsChk W (chkC p n) (chkT p n) (chkE p n)) := by
  obtain ⟨ak, ck, rfl, _, _⟩ := hk.opened
  obtain ⟨kN, hkN⟩ : ∃ q, n.kind = q := ⟨_, rfl⟩
  obtain ⟨kI, hkI⟩ : ∃ q, n.index = q := ⟨_, rfl⟩
  rw [hkN, hkI]
  go_enter Try.func63, Try.ntmps63
  go_upto_region 1 with (fail)
  obtain ⟨W1, x1, e1, hb1, s1, p0, p1, p2⟩ := enter3 x v0 v1 v2 26
  rw [show x.w.heap.size + 1 = x1.w.heap.size by rw [← e1]; simp, e1]
  clear e1
  obtain ⟨b2, hB2⟩ : ∃ b, x.w.heap.size = b := ⟨_, rfl⟩
  rw [hB2] at p0 p1 p2 s1 ⊢
  clear hB2
  obtain ⟨W2, x2, e2, hb2, s2, q0, q1, q2⟩ := enter3 x1 (.int .i64 kN) (.int .i64 kI) (.slice ak n.kids.length ck) 64
  rw [e2]
  clear e2
  obtain ⟨b3, hB3⟩ : ∃ b, x1.w.heap.size = b := ⟨_, rfl⟩
  rw [hB3] at q0 q1 q2 s2 ⊢
  clear hB3 x1 x
  replace p0 := Later.cells hb2 p0
  replace p1 := Later.cells hb2 p1
  replace p2 := Later.cells hb2 p2
  replace s1 := Later.sizes hb2 s1
  have hbw : Below W.heap.size W W2 := hb1.trans (hb2.mono hb1.size)
  have HP := Lib.hid (hp.below hbw)
  have HK := Lib.hid (hk.below hbw)
  obtain ⟨ap, cp, rfl, lp, _⟩ := hp.panes.opened
  obtain ⟨ao, co, rfl, lo, _⟩ := hp.opts.opened
  obtain ⟨ar, cr, rfl, lr, _⟩ := hp.rules.opened
  clear hp hk hb1 hb2
  have hA := Lib.hid (fun y : Later W2 => rlarge y _ _ _ p HP.out)
  replace hN := Lib.hid hN
  by_cases h0 : largeE p = 0
  case neg =>
    have hb0 : (largeE p != 0) = true := by simp [h0]
    have hE : Hid (chkE p n = largeE p ∧ chkC p n = 0 ∧ chkT p n = []) := Lib.hid (by
      have h1 : chkE p n = largeE p := by unfold chkE; rw [if_pos h0]
      exact ⟨h1, by unfold chkC; rw [h1, if_neg h0], by unfold chkT; rw [h1, if_neg h0]⟩)
    clear h0
    go_wp2_with (go_at_call 82; refine (hA.out _).mono ?_; rintro e w' ⟨rfl, x2, rfl⟩)
    go_ret3
    exact ⟨_, by rw [hE.out.1, hE.out.2.1]; rfl, ⟨x2.w, below_then hbw x2⟩, rfl, by rw [hE.out.2.2]; exact isBoolss_nil _⟩
  have hb0 : (largeE p != 0) = false := by simp [h0]
  obtain ⟨hval, _⟩ := largeE_0.1 h0
  replace h0 := Lib.hid h0
  obtain ⟨wv, hwv⟩ : ∃ q, wideN n 200000 = q := ⟨_, rfl⟩
  have hW : Hid (∀ y : Later W2, Calls Try.prog 122 #[.agg #[.int .i64 kN, .int .i64 kI, .slice ak n.kids.length ck], .int .i64 200000] y.w (Ends W2 (.int .i64 wv))) := Lib.hid (fun y => by rw [← hwv, ← hkN, ← hkI]; exact rnodes y _ n 200000 (by decide) (by decide) HK.out)
  have hw2 : ¬ 200000 < wv := by have := wideN_le n 200000 (by decide); have := hN.out; omega
  replace hwv := Lib.hid hwv
  have hn : p.opts.length ≤ 65536 := by have := valid_len hval; have := valid_pane64 hval; omega
  have hsh1 : (fullTab p false).length = p.opts.length := fullTo_len p false (Nat.le_refl _)
  have hsh2 : ∀ i, (nth (fullTab p false) i).length = (nth p.opts i).length := fun i => by
    rcases Nat.lt_or_ge i p.opts.length with h | h
    · unfold fullTab; rw [nth_fullTo p false (Nat.le_refl _) h, List.length_replicate]
    · have e1 : nth (fullTab p false) i = default := by unfold nth; rw [List.getD_eq_getElem?_getD, List.getElem?_eq_none (by omega)]; rfl
      have e2 : nth p.opts i = default := by unfold nth; rw [List.getD_eq_getElem?_getD, List.getElem?_eq_none (by omega)]; rfl
      rw [e1, e2]; rfl
  replace hsh1 := Lib.hid hsh1
  replace hsh2 := Lib.hid hsh2
  go_upto_region 7 with (first | (go_at_call 82; refine (hA.out _).mono ?_; rintro e w' ⟨rfl, x2, rfl⟩) | (go_at_call 122; refine (hW.out _).mono ?_; rintro e w' ⟨rfl, x2, rfl⟩) | (go_at_call 107; refine (rnone x2 _ _ _ p false HP.out hn).mono ?_; rintro e w' ⟨v, rfl, x3, rfl, vs, htab⟩; obtain ⟨at_, ct, rfl⟩ := htab.slice; rw [hsh1.out] at htab ⊢))
  have hpv : PvAt W2 x3.w x3.w.heap.size (.slice at_ p.opts.length ct) vs (fullTab p false) := ⟨⟨x3, rfl, htab⟩, htab.block, Nat.le_refl _⟩
  have hpr := rproves p _ _ _ _ vs x3.w.heap.size HP.out hval n x3.w _ (.slice none 0 0) (fullTab p false) [] hpv HK.out (isInts_nil _) hsh1.out hsh2.out (Nat.zero_le _) (fun i hi => absurd hi (Nat.not_lt_zero _)) hN.out
  rw [hkN, hkI] at hpr
  have hl := hN.out
  cases hK : okN p n []
  · have hE : Hid (chkE p n = 73 ∧ chkC p n = 0 ∧ chkT p n = []) := Lib.hid (by
      have h1 : chkE p n = 73 := by unfold chkE; rw [if_neg (by simp [h0.out]), if_neg (by simp [hK])]
      exact ⟨h1, by unfold chkC; rw [h1, if_neg (by decide)], by unfold chkT; rw [h1, if_neg (by decide)]⟩)
    have hpr2 := Lib.hid (hpr.mono (R' := fun e w' => e = .returned (.tuple #[.int .i64 0, .bool false]) ∧ ∃ y : Later W2, w' = y.w) (fun e w' h => h.elim (fun h => by rw [hK] at h; cases h.1) (fun h => ⟨h.2.1, h.2.2.1⟩)))
    clear hpv hpr htab
    go_wp2_with (go_at_call 123; refine hpr2.out.mono ?_; rintro e w' ⟨rfl, y4, rfl⟩)
    go_ret3
    exact ⟨_, by rw [hE.out.1, hE.out.2.1]; rfl, ⟨y4.w, below_then hbw y4⟩, rfl, by rw [hE.out.2.2]; exact isBoolss_nil _⟩
  · have hE : Hid (chkE p n = 0 ∧ chkC p n = (agN n []).length ∧ chkT p n = markAll (fullTab p false) (agN n [])) := Lib.hid (by
      have h1 : chkE p n = 0 := by unfold chkE; rw [if_neg (by simp [h0.out]), if_pos hK]
      exact ⟨h1, by unfold chkC; rw [if_pos h1], by unfold chkT; rw [if_pos h1]⟩)
    obtain ⟨sz, hsz⟩ : ∃ q, (agN n []).length = q := ⟨_, rfl⟩
    have hpr2 := Lib.hid (hpr.mono (R' := fun e w' => e = .returned (.tuple #[.int .i64 (sz : Nat), .bool true]) ∧ ∃ y : Later W2, w' = y.w ∧ IsBoolss y.w (.slice at_ p.opts.length ct) (chkT p n)) (fun e w' h => h.elim (fun h => ⟨by rw [← hsz]; exact h.2.1, (by
      obtain ⟨y, rfl, ht⟩ := h.2.2.1.tab
      have hm := markAll_shape (fullTab p false) (agN n [])
      refine ⟨y, rfl, ?_⟩
      rw [hE.out.2.2]
      refine ht.is (by rw [hm.1, hsh1.out]; omega) (fun i hi => ?_)
      rw [hm.2, hsh2.out]
      have := (valid_opts hval (i := i) (by rw [hm.1, hsh1.out] at hi; exact hi)).2
      omega)⟩) (fun h => by rw [hK] at h; cases h.1)))
    clear hpv hpr htab
    go_wp2_with (go_at_call 123; refine hpr2.out.mono ?_; rintro e w' ⟨rfl, y4, rfl, hI⟩)
    go_ret3
    exact ⟨_, by rw [hE.out.1, hE.out.2.1, hsz]; rfl, ⟨y4.w, below_then hbw y4⟩, rfl, hI⟩
end Go.Proofs.Ytmpkbolabdmkkaa
