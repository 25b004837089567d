/- CONTRACT of places' check of a rule of pairs. -/
import Derived.Test.YtmpkbolabdmkkaaPlC
namespace Go.Proofs.Ytmpkbolabdmkkaa
open Go.RowKit

/-- a box made in a region that draws -/
theorem enter1d {W : World} (x : Later W) (v : Value) (T : TypeId) : ∃ (W1 : World) (x1 : Later W1), (x.w.alloc (.cells #[v] T)).drew = x1.w ∧ Below W.heap.size W W1 ∧ (∀ y : Later W1, x.w.heap.size < y.w.heap.size) ∧ ∀ y : Later W1, y.w.cell? ⟨x.w.heap.size, 0, none⟩ = some v := by
  have hs : x.w.heap.size < (x.w.alloc (.cells #[v] T)).heap.size := by simp
  refine ⟨_, ⟨_, Below.drew (Below.refl _ _)⟩, rfl, x.h.alloc x.h.size _, Later.size hs, Later.cell hs ?_⟩; simp
theorem offB_get {l : List (List Bool)} {n : Nat} (h : offB l n = false) : ∀ i, i < l.length → (nth l i).length = n := by
  unfold offB at h; rw [decide_eq_false_iff_not] at h; intro i hi
  by_cases h' : (nth l i).length = n
  · exact h'
  · exact absurd ⟨i, hi, h'⟩ h
theorem offB_not {l : List (List Bool)} {n : Nat} (h : offB l n = true) : ¬ ∀ i, i < l.length → (nth l i).length = n := by
  unfold offB at h; rw [decide_eq_true_iff] at h; obtain ⟨i, hi, h'⟩ := h; exact fun hh => h' (hh i hi)

theorem ruleOK_cnt {p : Prob} {r : Rl} (h : r.kind = 1) : ruleOK p r = cntOK p r := by simp [ruleOK, h]
theorem ruleOK_pair {p : Prob} {r : Rl} (h : r.kind = 2) : ruleOK p r = pairOK p r := by simp [ruleOK, h]
theorem ruleOK_none {p : Prob} {r : Rl} (h1 : r.kind ≠ 1) (h2 : r.kind ≠ 2) : ruleOK p r = false := by simp [ruleOK, h1, h2]

set_option maxRecDepth 100000 in
set_option maxHeartbeats 2000000 in
theorem prulePair {W : World} (x : Later W) (v0 v1 v2 u2 u3 u6 : Value) (p : Prob) (r : Rl) (hp : IsProb W v0 v1 v2 p) (hr : IsRl W u2 u3 u6 r) (hlen : p.opts.length = p.panes.length) (k2 : r.kind = 2) :
    Calls Try.prog 96 #[.agg #[v0, v1, v2], .agg #[.int .i64 r.item, .int .i64 r.kind, u2, u3, .int .i64 r.lo, .int .i64 r.hi, u6]] x.w (Ends W (.bool (ruleOK p r))) := by
  replace hlen := Lib.hid hlen
  replace k2 := Lib.hid k2
  go_enter Try.func96, Try.ntmps96
  go_upto_region 1 with (fail)
  obtain ⟨W1, x1, e1, hb1, ⟨s1, s2⟩, ⟨p0, p1, p2⟩, q0, q1, q2, q3, q4, q5, q6⟩ := enter37 x v0 v1 v2 (.int .i64 r.item) (.int .i64 r.kind) u2 u3 (.int .i64 r.lo) (.int .i64 r.hi) u6 26 87
  rw [e1]; clear e1
  obtain ⟨ap, cp, rfl, lp, hpanes⟩ := (hp.panes.below hb1).opened
  obtain ⟨ao, co, rfl, lo, hopts⟩ := (hp.opts.below hb1).opened
  obtain ⟨aq, cq, rfl, lq, hq⟩ := (hr.panes.below hb1).opened
  obtain ⟨ah, ch, rfl, lh, hh⟩ := (hr.hits.below hb1).opened
  have HK := Lib.hid (hr.ok.below hb1)
  obtain ⟨ak, ck, rfl, lk, hk⟩ := (hr.ok.below hb1).opened
  clear hp hr
  have ht := Lib.hid (@ruleOK_pair p r k2.out)
  rw [k2.out] at q1
  clear k2
  have hno := Lib.hid (@pairOK_no p r)
  have hyes := Lib.hid (@pairOK_iff p r)
  cases hg1 : ((r.panes.length : Int) != 2)
  case true =>
    replace hno := Lib.hid (ht.out.trans (hno.out (fun h => ne_bne hg1 h.1.1)))
    go_wp2
    refine wp_region_later x1 (by kernel_rfl) (by kernel_rfl) ?_
    repeat (go_big_quiet_step (fail))
    refine wpQuiet_nil ?_
    rintro _ ⟨x1, rfl⟩
    go_wp2
    go_ret; exact ⟨ret_bool hno.out.symm, x1.down hb1⟩
  have g1 : r.panes.length = 2 := eq_bne hg1
  obtain ⟨b, o, rfl, hb, c0⟩ := hq.out 0 (by omega)
  obtain ⟨_, _, he, _, c1⟩ := hq.out 1 (by omega)
  cases he
  simp only [Nat.add_zero] at c0
  cases hA : wi (nth r.panes 0) 0 ((p.panes.length : Int) - 1)
  case false =>
    go_wp2
    refine wp_region_later x1 (by kernel_rfl) (by kernel_rfl) ?_
    repeat (go_big_quiet_step ((go_at_call 139; exact calls_same (pknown _ _ _ _ _ _ lp p0))))
    refine wpQuiet_nil ?_
    rintro _ ⟨x1, rfl⟩
    go_wp2
    go_ret; exact ⟨ret_bool (ht.out.trans (hno.out (fun h => by have := h.2.2.1; rw [hA] at this; cases this))).symm, x1.down hb1⟩
  have hA' := wi_iff.1 hA
  cases hB : wi (nth r.panes 1) 0 ((p.panes.length : Int) - 1)
  case false =>
    go_wp2
    refine wp_region_later x1 (by kernel_rfl) (by kernel_rfl) ?_
    repeat (go_big_quiet_step ((go_at_call 139; exact calls_same (pknown _ _ _ _ _ _ lp p0))))
    refine wpQuiet_nil ?_
    rintro _ ⟨x1, rfl⟩
    go_wp2
    go_ret; exact ⟨ret_bool (ht.out.trans (hno.out (fun h => by have := h.2.2.2.1; rw [hB] at this; cases this))).symm, x1.down hb1⟩
  have hB' := wi_iff.1 hB
  cases hAB : nth r.panes 0 == nth r.panes 1
  case true =>
    go_wp2
    refine wp_region_later x1 (by kernel_rfl) (by kernel_rfl) ?_
    repeat (go_big_quiet_step ((go_at_call 139; exact calls_same (pknown _ _ _ _ _ _ lp p0))))
    refine wpQuiet_nil ?_
    rintro _ ⟨x1, rfl⟩
    go_wp2
    go_ret; exact ⟨ret_bool (ht.out.trans (hno.out (fun h => h.2.1 (eq_beqI hAB)))).symm, x1.down hb1⟩
  by_cases g2 : r.hits.length = 0
  case neg =>
    replace hno := Lib.hid (ht.out.trans (hno.out (fun h => g2 h.1.2.1)))
    have g2' : 0 < r.hits.length := by omega
    clear g2
    go_wp2
    refine wp_region_later x1 (by kernel_rfl) (by kernel_rfl) ?_
    repeat (go_big_quiet_step ((go_at_call 139; exact calls_same (pknown _ _ _ _ _ _ lp p0))))
    refine wpQuiet_nil ?_
    rintro _ ⟨x1, rfl⟩
    go_wp2
    go_ret; exact ⟨ret_bool hno.out.symm, x1.down hb1⟩
  have g2' : (r.hits.length : Int) = 0 := by omega
  by_cases g3 : r.lo = 0
  case neg =>
    replace hno := Lib.hid (ht.out.trans (hno.out (fun h => g3 h.1.2.2.1)))
    go_wp2
    refine wp_region_later x1 (by kernel_rfl) (by kernel_rfl) ?_
    repeat (go_big_quiet_step ((go_at_call 139; exact calls_same (pknown _ _ _ _ _ _ lp p0))))
    refine wpQuiet_nil ?_
    rintro _ ⟨x1, rfl⟩
    go_wp2
    go_ret; exact ⟨ret_bool hno.out.symm, x1.down hb1⟩
  by_cases g4 : r.hi = 0
  case neg =>
    replace hno := Lib.hid (ht.out.trans (hno.out (fun h => g4 h.1.2.2.2)))
    rw [g3] at q4
    go_wp2
    refine wp_region_later x1 (by kernel_rfl) (by kernel_rfl) ?_
    repeat (go_big_quiet_step ((go_at_call 139; exact calls_same (pknown _ _ _ _ _ _ lp p0))))
    refine wpQuiet_nil ?_
    rintro _ ⟨x1, rfl⟩
    go_wp2
    go_ret; exact ⟨ret_bool hno.out.symm, x1.down hb1⟩
  have hl' := Lib.hid (⟨g1, g2, g3, g4⟩ : r.panes.length = 2 ∧ r.hits.length = 0 ∧ r.lo = 0 ∧ r.hi = 0)
  rw [g3] at q4
  rw [g4] at q5
  have i0 : (nth r.panes 0).toNat < p.opts.length := by have := hlen.out; omega
  have i1 : (nth r.panes 1).toNat < p.opts.length := by have := hlen.out; omega
  obtain ⟨bo, oo, rfl, hbo, uo, co0, hO⟩ := hopts.out (nth r.panes 0).toNat i0
  obtain ⟨av, cv, rfl, lv, _⟩ := hO.opened
  obtain ⟨_, _, he, _, uo1, co1, hO1⟩ := hopts.out (nth r.panes 1).toNat i1
  cases he
  obtain ⟨av1, cv1, rfl, lv1, _⟩ := hO1.opened
  go_wp2
  refine wp_region_later x1 (by kernel_rfl) (by kernel_rfl) ?_
  repeat (go_big_quiet_step ((go_at_call 139; exact calls_same (pknown _ _ _ _ _ _ lp p0))))
  refine wpQuiet_nil ?_
  rintro _ ⟨x1, rfl⟩
  go_wp2
  have i1a : (0 : Int) ≤ nth r.panes 1 := hB'.1
  have i1b : nth r.panes 1 < (p.opts.length : Int) := by omega
  have keep : ∀ w' : World, Below W1.heap.size W1 w' → Below W1.heap.size W1 w' ∧ w'.cell? ⟨x.w.heap.size, 1, none⟩ = some (.slice (some ⟨bo, oo, none⟩) p.opts.length co) ∧ w'.cell? ⟨x.w.heap.size + 1, 2, none⟩ = some (.slice (some ⟨b, o, none⟩) r.panes.length cq) ∧ w'.cell? ⟨b, o + 1, none⟩ = some (.int .i64 (nth r.panes 1)) ∧ w'.cell? ⟨bo, oo + (nth r.panes 1).toNat, none⟩ = some (.slice av1 (nth p.opts (nth r.panes 1).toNat).length cv1) := fun w' h => ⟨h, p1 ⟨w', h⟩, q2 ⟨w', h⟩, c1 ⟨w', h⟩, co1 ⟨w', h⟩⟩
  go_region_held3 (fun w' => Below W1.heap.size W1 w' ∧ w'.cell? ⟨x.w.heap.size, 1, none⟩ = some (.slice (some ⟨bo, oo, none⟩) p.opts.length co) ∧ w'.cell? ⟨x.w.heap.size + 1, 2, none⟩ = some (.slice (some ⟨b, o, none⟩) r.panes.length cq) ∧ w'.cell? ⟨b, o + 1, none⟩ = some (.int .i64 (nth r.panes 1)) ∧ w'.cell? ⟨bo, oo + (nth r.panes 1).toNat, none⟩ = some (.slice av1 (nth p.opts (nth r.panes 1).toNat).length cv1)) ((refine keep _ ?_; first | exact Later.h _ | exact Below.drew (Later.h _) | exact Below.alloc (Later.h _) (Later.h _).size _ | exact Below.alloc (Below.drew (Later.h _)) (Below.drew (Later.h _)).size _ | exact Below.setCell (Below.alloc (Later.h _) (Later.h _).size _) (Later.h _).size _ | exact Below.setCell (Below.alloc (Below.drew (Later.h _)) (Below.drew (Later.h _)).size _) (Below.drew (Later.h _)).size _)) (fail)
  all_goals
    obtain ⟨W2, x2, e2, hb2, t1, b0⟩ := enter1d x1 (.int .i64 (nth p.opts (nth r.panes 1).toNat).length) 3
    rw [e2]; clear e2
    replace s1 := Later.sizes hb2 s1
    replace s2 := Later.sizes hb2 s2
    replace hb := Later.sizes hb2 hb
    replace hbo := Later.sizes hb2 hbo
    replace p1 := Later.cells hb2 p1
    replace q2 := Later.cells hb2 q2
    replace q6 := Later.cells hb2 q6
    replace c0 := Later.cells hb2 c0
    replace co0 := Later.cells hb2 co0
    replace HK := Lib.hid (HK.out.below hb2)
    cases hOK : (r.ok.length : Int) == ((nth p.opts (nth r.panes 0).toNat).length : Int)
    · go_wp2
      refine wp_region_later x2 (by kernel_rfl) (by kernel_rfl) ?_
      repeat (go_big_quiet_step (fail))
      refine wpQuiet_nil ?_
      rintro _ ⟨x2, rfl⟩
      go_wp2
      go_ret; exact ⟨ret_bool (ht.out.trans (hno.out (fun h => ne_beq hOK h.2.2.2.2.1))).symm, by obtain ⟨z, hz⟩ := x2.down hb2; exact hz ▸ z.down hb1⟩
    · cases hX : offB r.ok (nth p.opts (nth r.panes 1).toNat).length
      · go_wp2
        refine wp_region_later x2 (by kernel_rfl) (by kernel_rfl) ?_
        repeat (go_big_quiet_step ((go_at_call 140; exact phasOff _ _ _ _ _ HK.out b0)))
        refine wpQuiet_nil ?_
        rintro _ ⟨x2, rfl⟩
        rw [hX]
        go_wp2
        go_ret; exact ⟨ret_bool (ht.out.trans (hyes.out.2 ⟨hl'.out, ne_beqI hAB, hA, hB, eq_beq hOK, offB_get hX⟩)).symm, by obtain ⟨z, hz⟩ := x2.down hb2; exact hz ▸ z.down hb1⟩
      · go_wp2
        refine wp_region_later x2 (by kernel_rfl) (by kernel_rfl) ?_
        repeat (go_big_quiet_step ((go_at_call 140; exact phasOff _ _ _ _ _ HK.out b0)))
        refine wpQuiet_nil ?_
        rintro _ ⟨x2, rfl⟩
        rw [hX]
        go_wp2
        go_ret; exact ⟨ret_bool (ht.out.trans (hno.out (fun h => offB_not hX h.2.2.2.2.2))).symm, by obtain ⟨z, hz⟩ := x2.down hb2; exact hz ▸ z.down hb1⟩
end Go.Proofs.Ytmpkbolabdmkkaa
