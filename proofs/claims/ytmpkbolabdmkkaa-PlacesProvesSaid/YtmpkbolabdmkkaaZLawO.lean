/- CONTRACT of PlacesProves. -/
import Derived.Test.YtmpkbolabdmkkaaZm
import Derived.Test.YtmpkbolabdmkkaaZSuM
import Derived.Test.YtmpkbolabdmkkaaZSuN
import Derived.Test.YtmpkbolabdmkkaaZe
import Derived.Test.YtmpkbolabdmkkaaZj
import Derived.Test.YtmpkbolabdmkkaaZPlY
namespace Go.Proofs.Ytmpkbolabdmkkaa
open Go.RowKit

theorem marks_all (t : List (List Bool)) (l : List (List Int)) (n : Nat) (h : ∀ f ∈ l, f.length = n) : ∀ k, k ≤ l.length → marksTo t l n k = markAll t (l.take k)
  | 0, _ => by simp [marksTo, markAll]
  | k + 1, hk => by
    rw [marksTo, marks_all t l n h k (by omega), take_snoc_nth _ k hk, markAll_append]
    have := h _ (nth_mem (l := l) (i := k) hk)
    rw [← this]; rfl
/-- the marks of all that agrees: what is possible -/
theorem mark_agr {p : Prob} (hv : validP p = true) : markAll (fullTab p false) (agr p) = possT p := by
  have h := marks_all (fullTab p false) (agr p) p.opts.length (fun f hf => (agr_mem hv hf).2.1) (agr p).length (Nat.le_refl _)
  rw [List.take_length] at h
  exact h.symm

theorem chk_yes {p : Prob} {n : Nd} (hE : largeE p = 0) (hok : okN p n [] = true) : chkE p n = 0 ∧ (chkC p n : Int) = countV p ∧ chkT p n = possL p := by
  obtain ⟨hv, _⟩ := largeE_0.1 hE
  have h0 : chkE p n = 0 := by unfold chkE; rw [if_neg (by omega), if_pos hok]
  refine ⟨h0, ?_, ?_⟩
  · unfold chkC countV; rw [if_pos h0, if_pos hE, tree_agr hv hok]
  · unfold chkT possL; rw [if_pos h0, if_pos hE, tree_agr hv hok, mark_agr hv]
theorem chk_no {p : Prob} {n : Nd} (hE : largeE p = 0) (hok : okN p n [] = false) : chkE p n = 73 := by
  unfold chkE; rw [if_neg (by omega), if_neg (by rw [hok]; decide)]
theorem survT_ok {p : Prob} (hE : largeE p = 0) (h3 : total p ≤ 300) : okN p (survT p) [] = true ∧ szN (survT p) ≤ 200000 := by
  obtain ⟨hv, _⟩ := largeE_0.1 hE
  unfold survT
  rw [if_pos hE]
  exact ⟨survey_ok hv, by have := surv_small hv h3; omega⟩

set_option maxRecDepth 100000 in
set_option maxHeartbeats 4000000 in
theorem lawProves {W : World} (x : Later W) (v0 v1 v2 k : Value) (p : Prob) (n : Nd) (hp : IsProb W v0 v1 v2 p) (hcap : ProbCap W v2) (hk : IsNd W k n) :
    Calls Try.prog 13 #[.agg #[v0, v1, v2], .agg #[.int .i64 n.kind, .int .i64 n.index, k]] x.w (Ends W (.bool true)) := by
  obtain ⟨wv, hwv⟩ : ∃ q, q = wideN n 400 := ⟨_, rfl⟩
  have hsz : wv ≤ 400 → Hid (szN n ≤ 200000) := fun h => Lib.hid (by have := (wideN_bd n 400 (by omega)).2.2 (by omega); omega)
  obtain ⟨kN, hkN⟩ : ∃ q, n.kind = q := ⟨_, rfl⟩
  obtain ⟨kI, hkI⟩ : ∃ q, n.index = q := ⟨_, rfl⟩
  rw [hkN, hkI]
  go_enter Try.func13, Try.ntmps13
  go_upto_region 1 with (fail)
  obtain ⟨W1, x1, e1, hb1, s1, p0, p1, p2⟩ := enter3 x v0 v1 v2 26
  rw [show x.w.heap.size + 1 = x1.w.heap.size by rw [← e1]; simp, e1]
  clear e1
  obtain ⟨b2, hB2⟩ : ∃ b, x.w.heap.size = b := ⟨_, rfl⟩
  rw [hB2] at p0 p1 p2 s1 ⊢
  clear hB2
  obtain ⟨W2, x2, e2, hb2, s2, q0, q1, q2⟩ := enter3 x1 (.int .i64 kN) (.int .i64 kI) k 64
  rw [e2]
  clear e2
  obtain ⟨b3, hB3⟩ : ∃ b, x1.w.heap.size = b := ⟨_, rfl⟩
  rw [hB3] at q0 q1 q2 s2 ⊢
  clear hB3 x1 x
  replace p0 := Later.cells hb2 p0
  replace p1 := Later.cells hb2 p1
  replace p2 := Later.cells hb2 p2
  replace s1 := Later.sizes hb2 s1
  have hB := hb1.trans (hb2.mono hb1.size)
  have HP := Lib.hid (hp.below hB)
  have HC := Lib.hid (hcap.below hp.rules hB)
  have HK := Lib.hid (hk.below hB)
  obtain ⟨ap, cp, rfl, lp, _⟩ := hp.panes.opened
  obtain ⟨ao, co, rfl, lo, _⟩ := hp.opts.opened
  obtain ⟨ar, cr, rfl, lr, _⟩ := hp.rules.opened
  obtain ⟨ak, ck, rfl, lk, _⟩ := hk.opened
  clear hp hcap hk hb1 hb2
  have hwide : Hid (∀ y : Later W2, Calls Try.prog 58 #[.agg #[.int .i64 kN, .int .i64 kI, .slice ak n.kids.length ck], .int .i64 400] y.w (Ends W2 (.int .i64 wv))) := Lib.hid (fun y => by rw [hwv, ← hkN, ← hkI]; exact pwide y _ n 400 (by decide) (by decide) HK.out)
  clear hwv
  go_upto_region 2 with (go_at_call 14; refine (lawake x2).mono ?_; rintro e w' ⟨rfl, x2, rfl⟩)
  go_wp2_with (fail)
  refine (llightF x2 _ _ _ p HP.out).mono ?_
  rintro e w' ⟨bs, rfl, hl, x2, rfl⟩
  cases bs
  · go_wp2
    go_ret; exact ⟨rfl, x2.down hB⟩
  have h300 := Lib.hid (hl rfl)
  clear hl
  by_cases hw : 400 < wv
  · go_wp2_with (go_at_call 58; refine (hwide.out x2).mono ?_; rintro e w' ⟨rfl, x2, rfl⟩)
    go_ret; exact ⟨rfl, x2.down hB⟩
  replace hsz := hsz (by omega)
  obtain ⟨E, hE⟩ : ∃ E, Hid (E = largeE p) := ⟨_, Lib.hid rfl⟩
  obtain ⟨C, hC⟩ : ∃ C, Hid (C = countV p) := ⟨_, Lib.hid rfl⟩
  have hcnt : Hid (∀ y : Later W2, Calls Try.prog 28 #[.agg #[.slice ap p.panes.length cp, .slice ao p.opts.length co, .slice ar p.rules.length cr]] y.w (Ends W2 (.tuple #[.int .i64 C, .int .i64 E]))) := Lib.hid (fun y => by rw [hC.out, hE.out]; exact pCount y _ _ _ p HP.out)
  have hpos : Hid (∀ y : Later W2, Calls Try.prog 46 #[.agg #[.slice ap p.panes.length cp, .slice ao p.opts.length co, .slice ar p.rules.length cr]] y.w (EndsTabE W2 (possL p) E)) := Lib.hid (fun y => by rw [hE.out]; exact pPossible y _ _ _ p HP.out)
  go_upto_region 6 with (first | (go_at_call 58; refine (hwide.out x2).mono ?_; rintro e w' ⟨rfl, x2, rfl⟩) | (go_at_call 28; refine (hcnt.out x2).mono ?_; rintro e w' ⟨rfl, x2, rfl⟩) | (go_at_call 46; refine (hpos.out x2).mono ?_; rintro e w' ⟨u, rfl, y1, rfl, hI⟩; have I1 := Lib.hid hI; obtain ⟨a1, c1, rfl, hx1, hx2⟩ := hI; clear hx1 hx2))
  clear hcnt hpos hwide
  by_cases h0 : E = 0
  rotate_left
  · go_wp2
    go_ret; exact ⟨rfl, y1.down hB⟩
  subst h0
  have hE0 := Lib.hid hE.out.symm
  clear hE
  have h3 := Lib.hid (h300.out hE0.out)
  clear h300
  replace HC := Lib.hid (HC.out.below HP.out.rules y1.h)
  replace HP := Lib.hid (HP.out.below y1.h)
  replace HK := Lib.hid (HK.out.below y1.h)
  replace p0 := Later.cells y1.h p0
  replace p1 := Later.cells y1.h p1
  replace p2 := Later.cells y1.h p2
  replace q0 := Later.cells y1.h q0
  replace q1 := Later.cells y1.h q1
  replace q2 := Later.cells y1.h q2
  replace s1 := Later.sizes y1.h s1
  replace s2 := Later.sizes y1.h s2
  replace hB := below_then hB y1
  obtain ⟨W3, hW3⟩ : ∃ V, y1.w = V := ⟨_, rfl⟩
  rw [hW3] at HC HP HK p0 p1 p2 q0 q1 q2 s1 s2 hB I1 ⊢
  clear hW3 y1
  have hck := Lib.hid (fun y : Later W3 => pCheck y _ _ _ _ p n HP.out HC.out HK.out hsz.out)
  rw [hkN, hkI] at hck
  have hsv : Hid (∀ y : Later W3, Calls Try.prog 59 #[.agg #[.slice ap p.panes.length cp, .slice ao p.opts.length co, .slice ar p.rules.length cr]] y.w (EndsNd W3 (survT p) 0)) := Lib.hid (fun y => by have h := pSurvey y _ _ _ p HP.out HC.out (fun _ => h3.out); rw [hE0.out] at h; exact h)
  have hrest : Hid (∀ (y4 : Later W3) (k4 : Value) (V : World) (_ : Below y4.w.heap.size y4.w V), IsNd y4.w k4 (survT p) → ∃ cn : Nat, C = (cn : Int) ∧ ∀ y : Later V, Calls Try.prog 62 #[.agg #[.slice ap p.panes.length cp, .slice ao p.opts.length co, .slice ar p.rules.length cr], .agg #[.int .i64 (survT p).kind, .int .i64 (survT p).index, k4]] y.w (EndsChk V cn (possL p) 0)) := Lib.hid (fun y4 k4 V hbV hN4 => by
    obtain ⟨h1, h2⟩ := survT_ok hE0.out h3.out
    obtain ⟨g0, g1, g2⟩ := chk_yes hE0.out h1
    have hbb := below_then hbV (Later.now V)
    have hb3 := y4.h.trans (hbV.mono y4.h.size)
    refine ⟨chkC p (survT p), by rw [g1]; exact hC.out, fun y => ?_⟩
    have h := pCheck y _ _ _ k4 p (survT p) (HP.out.below hb3) (HC.out.below HP.out.rules hb3) (hN4.below hbV) h2
    rw [g0, g2] at h
    exact h)
  show Code.wp _ _ _ _ (Later.now W3).w
  generalize Later.now W3 = x3
  cases hok : okN p n []
  · rw [chk_no hE0.out hok] at hck
    obtain ⟨cn, hcn⟩ : ∃ q, chkC p n = q := ⟨_, rfl⟩
    obtain ⟨tn, htn⟩ : ∃ q, chkT p n = q := ⟨_, rfl⟩
    rw [hcn, htn] at hck
    clear hcn htn
    go_upto_region 9 with (go_at_call 62; refine (hck.out x3).mono ?_; rintro e w' ⟨u, rfl, y2, rfl, hI⟩; obtain ⟨a2, c2, rfl, hx1, hx2⟩ := hI; clear hx1 hx2)
    go_upto_region 11 with (fail)
    obtain ⟨y9, hy9⟩ : ∃ y9 : Later W3, y2.w = y9.w := ⟨y2, rfl⟩
    rw [hy9]
    clear hy9 y2
    go_upto_region 12 with (go_at_call 59; refine (hsv.out y9).mono ?_; rintro e w' ⟨k4, rfl, ⟨a4, l4, c4, rfl⟩, y4, rfl, hN4⟩; have hM4 := Lib.hid hN4; clear hN4)
    have hre := hrest.out y4 (.slice a4 l4 c4)
    obtain ⟨sK, hsK⟩ : ∃ q, (survT p).kind = q := ⟨_, rfl⟩
    obtain ⟨sI, hsI⟩ : ∃ q, (survT p).index = q := ⟨_, rfl⟩
    rw [hsK, hsI] at hre ⊢
    clear hsK hsI
    obtain ⟨b13, hB13⟩ : ∃ b, y4.w.heap.size = b := ⟨_, rfl⟩
    obtain ⟨W5, hW5⟩ : ∃ V, y4.w.alloc (.cells #[.int .i64 sK, .int .i64 sI, .slice a4 l4 c4] 64) = V := ⟨_, rfl⟩
    have hb5 : Below y4.w.heap.size y4.w W5 := hW5 ▸ below_alloc1 _ _
    have n13 : b13 < W5.heap.size := by rw [← hW5, ← hB13]; simp
    have t0 : ∀ y : Later W5, y.w.cell? ⟨b13, 0, none⟩ = some (.int .i64 sK) := Later.cell n13 (by rw [← hW5, ← hB13]; exact World.cell?_alloc_at _ _ _ 0 rfl)
    have t1 : ∀ y : Later W5, y.w.cell? ⟨b13, 1, none⟩ = some (.int .i64 sI) := Later.cell n13 (by rw [← hW5, ← hB13]; exact World.cell?_alloc_at _ _ _ 1 rfl)
    have t2 : ∀ y : Later W5, y.w.cell? ⟨b13, 2, none⟩ = some (.slice a4 l4 c4) := Later.cell n13 (by rw [← hW5, ← hB13]; exact World.cell?_alloc_at _ _ _ 2 rfl)
    have t3 : ∀ y : Later W5, b13 < y.w.heap.size := Later.size n13
    obtain ⟨cn', hcn', hre'⟩ := hre W5 hb5 hM4.out
    have hW35 : Below W3.heap.size W3 W5 := y4.h.trans (hb5.mono y4.h.size)
    replace p0 := Later.cells hW35 p0
    replace p1 := Later.cells hW35 p1
    replace p2 := Later.cells hW35 p2
    replace s1 := Later.sizes hW35 s1
    have J1 := Lib.hid (I1.out.below hW35)
    have hB5 := hB.trans (hW35.mono hB.size)
    replace hre' := Lib.hid hre'
    rw [hW5, hB13]
    clear hW5 hB13 hre hrest hsv hck hM4 I1 hW35 hb5 q0 q1 q2 s2 HP HC HK n13 hB y4
    first | subst hcn' | (obtain rfl : cn = cn' := by omega)
    show Code.wp _ _ _ _ (Later.now W5).w
    generalize Later.now W5 = x5
    go_upto_region 13 with (go_at_call 62; refine (hre'.out x5).mono ?_; rintro e w' ⟨u, rfl, y6, rfl, hI⟩; have I6 := Lib.hid hI; obtain ⟨a6, c6, rfl, hx1, hx2⟩ := hI; clear hx1 hx2)
    have hS2 : Hid (∀ y : Later y6.w, Calls Try.prog 45 #[.slice a6 (possL p).length c6, .slice a1 (possL p).length c1] y.w (Ends y6.w (.bool true))) := Lib.hid (fun y => by have h := rSameTables y _ _ _ _ I6.out (J1.out.below y6.h); rw [decide_eq_true rfl] at h; exact h)
    go_wp2_with (go_at_call 45; refine (hS2.out (Later.now y6.w)).mono ?_; rintro e w' ⟨rfl, z6, rfl⟩)
    go_ret; exact ⟨rfl, ⟨z6.w, below_then (below_then hB5 y6) z6⟩, rfl⟩
  · obtain ⟨g0, g1, g2⟩ := chk_yes hE0.out hok
    rw [g0, g2] at hck
    obtain ⟨cn, hcn⟩ : ∃ q, chkC p n = q := ⟨_, rfl⟩
    rw [hcn] at hck g1
    obtain rfl : C = (cn : Int) := hC.out.trans g1.symm
    clear hcn g0 g1 g2
    go_upto_region 9 with (go_at_call 62; refine (hck.out x3).mono ?_; rintro e w' ⟨u, rfl, y2, rfl, hI⟩; have I2 := Lib.hid hI; obtain ⟨a2, c2, rfl, hx1, hx2⟩ := hI; clear hx1 hx2)
    have hS1 : Hid (∀ y : Later y2.w, Calls Try.prog 45 #[.slice a2 (possL p).length c2, .slice a1 (possL p).length c1] y.w (Ends y2.w (.bool true))) := Lib.hid (fun y => by have h := rSameTables y _ _ _ _ I2.out (I1.out.below y2.h); rw [decide_eq_true rfl] at h; exact h)
    go_upto_region 11 with (go_at_call 45; refine (hS1.out (Later.now y2.w)).mono ?_; rintro e w' ⟨rfl, z2, rfl⟩)
    obtain ⟨y9, hy9⟩ := z2.down y2.h
    rw [hy9]
    clear hy9 z2 I2 hS1
    go_upto_region 12 with (go_at_call 59; refine (hsv.out y9).mono ?_; rintro e w' ⟨k4, rfl, ⟨a4, l4, c4, rfl⟩, y4, rfl, hN4⟩; have hM4 := Lib.hid hN4; clear hN4)
    have hre := hrest.out y4 (.slice a4 l4 c4)
    obtain ⟨sK, hsK⟩ : ∃ q, (survT p).kind = q := ⟨_, rfl⟩
    obtain ⟨sI, hsI⟩ : ∃ q, (survT p).index = q := ⟨_, rfl⟩
    rw [hsK, hsI] at hre ⊢
    clear hsK hsI
    obtain ⟨b13, hB13⟩ : ∃ b, y4.w.heap.size = b := ⟨_, rfl⟩
    obtain ⟨W5, hW5⟩ : ∃ V, y4.w.alloc (.cells #[.int .i64 sK, .int .i64 sI, .slice a4 l4 c4] 64) = V := ⟨_, rfl⟩
    have hb5 : Below y4.w.heap.size y4.w W5 := hW5 ▸ below_alloc1 _ _
    have n13 : b13 < W5.heap.size := by rw [← hW5, ← hB13]; simp
    have t0 : ∀ y : Later W5, y.w.cell? ⟨b13, 0, none⟩ = some (.int .i64 sK) := Later.cell n13 (by rw [← hW5, ← hB13]; exact World.cell?_alloc_at _ _ _ 0 rfl)
    have t1 : ∀ y : Later W5, y.w.cell? ⟨b13, 1, none⟩ = some (.int .i64 sI) := Later.cell n13 (by rw [← hW5, ← hB13]; exact World.cell?_alloc_at _ _ _ 1 rfl)
    have t2 : ∀ y : Later W5, y.w.cell? ⟨b13, 2, none⟩ = some (.slice a4 l4 c4) := Later.cell n13 (by rw [← hW5, ← hB13]; exact World.cell?_alloc_at _ _ _ 2 rfl)
    have t3 : ∀ y : Later W5, b13 < y.w.heap.size := Later.size n13
    obtain ⟨cn', hcn', hre'⟩ := hre W5 hb5 hM4.out
    have hW35 : Below W3.heap.size W3 W5 := y4.h.trans (hb5.mono y4.h.size)
    replace p0 := Later.cells hW35 p0
    replace p1 := Later.cells hW35 p1
    replace p2 := Later.cells hW35 p2
    replace s1 := Later.sizes hW35 s1
    have J1 := Lib.hid (I1.out.below hW35)
    have hB5 := hB.trans (hW35.mono hB.size)
    replace hre' := Lib.hid hre'
    rw [hW5, hB13]
    clear hW5 hB13 hre hrest hsv hck hM4 I1 hW35 hb5 q0 q1 q2 s2 HP HC HK n13 hB y4
    first | subst hcn' | (obtain rfl : cn = cn' := by omega)
    show Code.wp _ _ _ _ (Later.now W5).w
    generalize Later.now W5 = x5
    go_upto_region 13 with (go_at_call 62; refine (hre'.out x5).mono ?_; rintro e w' ⟨u, rfl, y6, rfl, hI⟩; have I6 := Lib.hid hI; obtain ⟨a6, c6, rfl, hx1, hx2⟩ := hI; clear hx1 hx2)
    have hS2 : Hid (∀ y : Later y6.w, Calls Try.prog 45 #[.slice a6 (possL p).length c6, .slice a1 (possL p).length c1] y.w (Ends y6.w (.bool true))) := Lib.hid (fun y => by have h := rSameTables y _ _ _ _ I6.out (J1.out.below y6.h); rw [decide_eq_true rfl] at h; exact h)
    go_wp2_with (go_at_call 45; refine (hS2.out (Later.now y6.w)).mono ?_; rintro e w' ⟨rfl, z6, rfl⟩)
    go_ret; exact ⟨rfl, ⟨z6.w, below_then (below_then hB5 y6) z6⟩, rfl⟩
end Go.Proofs.Ytmpkbolabdmkkaa
