/- CONTRACTS of places' Survey and of what it runs. -/
import Derived.Test.YtmpkbolabdmkkaaZSuE
import Derived.Test.YtmpkbolabdmkkaaZSuF
import Derived.Test.YtmpkbolabdmkkaaZj
namespace Go.Proofs.Ytmpkbolabdmkkaa
open Go.RowKit

theorem pnode {Wb : World} (p : Prob) (v0 v1 v2 : Value) (bs : Nat) (hp : IsProb Wb v0 v1 v2 p) (hcap : ProbCap Wb v2) (hval : validP p = true) (hbs : Wb.heap.size ≤ bs) : ∀ m, PNode Wb p v0 v1 v2 bs m
  | 0 => pnode_core p v0 v1 v2 bs 0 hp hcap hval hbs (fun m' h => by cases h)
  | m + 1 => pnode_core p v0 v1 v2 bs (m + 1) hp hcap hval hbs (fun m' h => by cases h; exact pnode p v0 v1 v2 bs hp hcap hval hbs m)

theorem grown_setS {A B : World} {s : Nat} (h : A.grownBy B (some s)) (o : Nat) (v : Value) : A.grownBy (B.setCell ⟨s, o, none⟩ v) (some s) :=
  ⟨h.os, h.tape, h.output, by simpa [World.setCell] using h.size, fun k hk hne => (set_block (fun e => hne (by rw [e]))).trans (h.block k hk hne)⟩
/-- HOW Survey's CLOSURE ENDS: the node's variable holds the tree -/
def SvEnd (bn : Nat) (xw : World) (t : Nd) (w' : World) : Prop :=
  ∃ k, isSl k ∧ xw.grownBy w' (some bn) ∧ BoxAt w' bn (.int .i64 t.kind) (.int .i64 t.index) k ∧ IsNd (wout (fun k => decide (k < xw.heap.size)) w') k t

set_option maxRecDepth 100000 in
set_option maxHeartbeats 2000000 in
theorem psurv1 {Wb : World} (p : Prob) (v0 v1 v2 u0 u1 u2 : Value) (b1 bn : Nat) (xw : World) (hp : IsProb Wb v0 v1 v2 p) (hcap : ProbCap Wb v2) (hval : validP p = true) (ht : total p ≤ 300) (hbx : Below Wb.heap.size Wb xw)
    (c0 : xw.cell? ⟨b1, 0, none⟩ = some v0) (c1 : xw.cell? ⟨b1, 1, none⟩ = some v1) (c2 : xw.cell? ⟨b1, 2, none⟩ = some v2) (hbn : BoxAt xw bn u0 u1 u2) :
    Calls Try.prog 116 #[.pointer (some ⟨b1, 0, none⟩), .pointer (some ⟨bn, 0, none⟩)] xw fun e w' => e = .returned (.tuple #[]) ∧ SvEnd bn xw (surv p p.opts.length []) w' := by
  have hsm := surv_small hval ht
  obtain ⟨ap, cp, rfl, lp, _⟩ := hp.panes.opened
  obtain ⟨ao, co, rfl, lo, _⟩ := hp.opts.opened
  obtain ⟨ar, cr, rfl, lr, _⟩ := hp.rules.opened
  obtain ⟨A, hA⟩ : ∃ A, xw.alloc (.cells #[.slice ap p.panes.length cp, .slice ao p.opts.length co, .slice ar p.rules.length cr, .int .i64 0] 117) = A := ⟨_, rfl⟩
  have hbA : Below xw.heap.size xw A := hA ▸ below_alloc1 _ _
  have hs : SvAt A xw.heap.size (.slice ap p.panes.length cp) (.slice ao p.opts.length co) (.slice ar p.rules.length cr) ((0 : Nat) : Int) := by
    rw [← hA]
    exact ⟨by simp, World.cell?_alloc_at _ _ _ 0 rfl, World.cell?_alloc_at _ _ _ 1 rfl, World.cell?_alloc_at _ _ _ 2 rfl, World.cell?_alloc_at _ _ _ 3 rfl, World.frozen?_alloc_at _ _ _ 3 rfl⟩
  have hC := Lib.hid (pnode p _ _ _ xw.heap.size hp hcap hval hbx.size p.opts.length [] (by simp) (fun i hi => absurd hi (Nat.not_lt_zero _)) A (.slice none 0 0) 0 (hbx.trans (hbA.mono hbx.size)) (isInts_nil _) hs (by omega))
  rw [Nat.zero_add] at hC
  obtain ⟨t, ht2⟩ : ∃ t, surv p p.opts.length [] = t := ⟨_, rfl⟩
  rw [ht2] at hC ⊢
  clear hs hsm ht2
  go_enter Try.func116, Try.ntmps116
  go_wp2_with (go_at_call 117; refine hC.out.mono ?_; rintro e w7 ⟨k, rfl, ⟨A9, l9, c9, rfl⟩, hg7, hs7, hn7⟩; have hbn7 := (hbn.below hbA).grown hg7.size (hg7.block bn (hbn.below hbA).lt (fun e => by have := hbn.lt; cases e; omega)); have n0 := hbn7.c0; have n1 := hbn7.c1; have n2 := hbn7.c2; have m0 := hbn7.f0; have m1 := hbn7.f1; have m2 := hbn7.f2; have mz := hbn7.lt)
  first | go_end0 | (refine bodyPost_ret (results_none rfl _ _ _) rfl ?_)
  have hgx : xw.grownBy w7 (some bn) := ⟨hg7.os.trans hbA.os, hg7.tape.trans hbA.tape, hg7.output.trans hbA.output, Nat.le_trans hbA.size hg7.size, fun k hk _ => (hg7.block k (Nat.lt_of_lt_of_le hk hbA.size) (fun e => by cases e; omega)).trans (hbA.block k hk)⟩
  obtain ⟨t0, t1, t2⟩ := three_set (u0 := .int .i64 t.kind) (u1 := .int .i64 t.index) (u2 := .slice A9 l9 c9) n0 n1 n2
  refine ⟨rfl, _, ⟨_, _, _, rfl⟩, grown_setS (grown_setS (grown_setS hgx _ _) _ _) _ _, ⟨by simpa [World.setCell] using mz, t0, t1, t2, ?_, ?_, ?_⟩, hn7.cov (cov_out (by simp [World.setCell]) fun k hk hP => ?_) _⟩
  · rw [frozen_set, frozen_set, frozen_set]; exact m0
  · rw [frozen_set, frozen_set, frozen_set]; exact m1
  · rw [frozen_set, frozen_set, frozen_set]; exact m2
  · have hk2 : A.heap.size ≤ k := by simpa using hP
    have h3 := hbn.lt
    have h4 := hbA.size
    refine ⟨by simp; omega, ?_⟩
    rw [set_block (by omega), set_block (by omega), set_block (by omega)]

/-- what Survey hands back -/
def survT (p : Prob) : Nd := if largeE p = 0 then surv p p.opts.length [] else .mk 0 0 []
def EndsNd (W : World) (t : Nd) (n : Int) (e : Ending) (w' : World) : Prop := ∃ k, e = .returned (.tuple #[.agg #[.int .i64 t.kind, .int .i64 t.index, k], .int .i64 n]) ∧ isSl k ∧ ∃ y : Later W, w' = y.w ∧ IsNd y.w k t

set_option maxRecDepth 100000 in
set_option maxHeartbeats 2000000 in
theorem pSurvey {W : World} (x : Later W) (v0 v1 v2 : Value) (p : Prob) (hp : IsProb W v0 v1 v2 p) (hcap : ProbCap W v2) (ht : largeE p = 0 → total p ≤ 300) :
    Calls Try.prog 59 #[.agg #[v0, v1, v2]] x.w (EndsNd W (survT p) (largeE p)) := by
  have hmf : ∀ (fn : Fn) (first cap : Array Value) (w : World), (Instr.makeFunc fn first cap).run Try.prog w = .ok (.func fn first cap) w := fun _ _ _ _ => rfl
  go_enter Try.func59, Try.ntmps59
  go_upto_region 1 with (fail)
  obtain ⟨W1, x1, e1, hb1, s1, p0, p1, p2⟩ := enter3 x v0 v1 v2 26
  rw [show x.w.heap.size + 1 = x1.w.heap.size by rw [← e1]; simp, e1]
  clear e1
  obtain ⟨b1, hB1⟩ : ∃ b, x.w.heap.size = b := ⟨_, rfl⟩
  rw [hB1] at p0 p1 p2 s1 ⊢
  clear hB1
  obtain ⟨b2, hB2⟩ : ∃ b, x1.w.heap.size = b := ⟨_, rfl⟩
  obtain ⟨W2, hW2⟩ : ∃ V, x1.w.alloc (.cells #[.int .i64 0, .int .i64 0, .slice none 0 0] 64) = V := ⟨_, rfl⟩
  have hx2 : Below x1.w.heap.size x1.w W2 := hW2 ▸ below_alloc1 _ _
  have B2 : BoxAt W2 b2 (.int .i64 0) (.int .i64 0) (.slice none 0 0) := by
    rw [← hW2, ← hB2]
    exact ⟨by simp, World.cell?_alloc_at _ _ _ 0 rfl, World.cell?_alloc_at _ _ _ 1 rfl, World.cell?_alloc_at _ _ _ 2 rfl, World.frozen?_alloc_at _ _ _ 0 rfl, World.frozen?_alloc_at _ _ _ 1 rfl, World.frozen?_alloc_at _ _ _ 2 rfl⟩
  have hb2 : Below W1.heap.size W1 W2 := x1.h.trans (hx2.mono x1.h.size)
  have hWb2 : W.heap.size ≤ b2 := by have := x1.h.size; have := hb1.size; omega
  rw [hW2, hB2]
  clear hW2 hB2 hx2 x1
  have hbw : Below W.heap.size W W2 := hb1.trans (hb2.mono hb1.size)
  have HP := Lib.hid (hp.below hbw)
  have HC := Lib.hid (hcap.below hp.rules hbw)
  obtain ⟨ap, cp, rfl, lp, _⟩ := hp.panes.opened
  obtain ⟨ao, co, rfl, lo, _⟩ := hp.opts.opened
  obtain ⟨ar, cr, rfl, lr, _⟩ := hp.rules.opened
  replace p0 := Later.cells hb2 p0
  replace p1 := Later.cells hb2 p1
  replace p2 := Later.cells hb2 p2
  replace s1 := Later.sizes hb2 s1
  clear hp hcap hb1 hb2
  have e0 : ∀ y : Later W2, y.w.cell? ⟨b2, 0, none⟩ = some (.int .i64 0) := Later.cell B2.lt B2.c0
  have e1 : ∀ y : Later W2, y.w.cell? ⟨b2, 1, none⟩ = some (.int .i64 0) := Later.cell B2.lt B2.c1
  have e2 : ∀ y : Later W2, y.w.cell? ⟨b2, 2, none⟩ = some (.slice none 0 0) := Later.cell B2.lt B2.c2
  have f0 : ∀ y : Later W2, y.w.frozen? ⟨b2, 0, none⟩ = false := Later.frozen B2.lt B2.f0
  have f1 : ∀ y : Later W2, y.w.frozen? ⟨b2, 1, none⟩ = false := Later.frozen B2.lt B2.f1
  have f2 : ∀ y : Later W2, y.w.frozen? ⟨b2, 2, none⟩ = false := Later.frozen B2.lt B2.f2
  have s2 : ∀ y : Later W2, b2 < y.w.heap.size := Later.size B2.lt
  have hB2' := Lib.hid B2
  clear B2
  have hA := Lib.hid (fun y : Later W2 => pasked y _ _ _ p true HP.out)
  rw [askE_true] at hA
  show Code.wp _ _ _ _ (Later.now W2).w
  generalize Later.now W2 = x1
  by_cases h0 : largeE p = 0
  case neg =>
    have hb0 : (largeE p != 0) = true := by simp [h0]
    have hT : Hid (survT p = .mk 0 0 []) := Lib.hid (by unfold survT; rw [if_neg h0])
    clear h0
    go_wp2_with (go_at_call 65; refine (hA.out _).mono ?_; rintro e w' ⟨rfl, x1, rfl⟩)
    obtain ⟨t0, t1, t2⟩ := three_set (u0 := .int .i64 0) (u1 := .int .i64 0) (u2 := .slice none 0 0) (e0 x1) (e1 x1) (e2 x1)
    refine bodyPost_ret (results_ct rfl rfl (loadVar_node t0 t1 t2)) rfl ?_
    obtain ⟨z, hz⟩ : ∃ z : Later W, x1.w = z.w := ⟨⟨x1.w, below_then hbw x1⟩, rfl⟩
    rw [hz]
    obtain ⟨z1, hz1⟩ := z.setO hWb2 0 (.int .i64 0)
    obtain ⟨z2, hz2⟩ := z1.setO hWb2 1 (.int .i64 0)
    obtain ⟨z3, hz3⟩ := z2.setO hWb2 2 (.slice none 0 0)
    rw [hz1, hz2, hz3, hT.out]
    exact ⟨_, rfl, ⟨_, _, _, rfl⟩, z3, rfl, isNd_leaf _ _ _⟩
  have hb0 : (largeE p != 0) = false := by simp [h0]
  obtain ⟨hval, _⟩ := largeE_0.1 h0
  have hT : Hid (survT p = surv p p.opts.length []) := Lib.hid (by unfold survT; rw [if_pos h0])
  have h300 := ht h0
  replace h0 := Lib.hid h0
  go_upto_region 5 with (go_at_call 65; refine (hA.out _).mono ?_; rintro e w' ⟨rfl, x1, rfl⟩)
  obtain ⟨b5, hB5⟩ : ∃ b, x1.w.heap.size = b := ⟨_, rfl⟩
  obtain ⟨W5, hW5⟩ : ∃ V, x1.w.alloc (.cells #[.int .i64 0, .int .i64 0, .slice none 0 0] 64) = V := ⟨_, rfl⟩
  have hx5 : Below W2.heap.size W2 W5 := hW5 ▸ x1.h.alloc x1.h.size _
  have B5 : BoxAt W5 b5 (.int .i64 0) (.int .i64 0) (.slice none 0 0) := by
    rw [← hW5, ← hB5]
    exact ⟨by simp, World.cell?_alloc_at _ _ _ 0 rfl, World.cell?_alloc_at _ _ _ 1 rfl, World.cell?_alloc_at _ _ _ 2 rfl, World.frozen?_alloc_at _ _ _ 0 rfl, World.frozen?_alloc_at _ _ _ 1 rfl, World.frozen?_alloc_at _ _ _ 2 rfl⟩
  have hb25 : b2 < b5 := hB5 ▸ s2 x1
  rw [hW5, hB5]
  clear hW5 hB5 x1
  have hbl : Below W5.heap.size W5 (W5.alloc (.cells #[.bool false] 4)) := below_alloc1 _ _
  have hrun := psurv1 p _ _ _ _ _ _ b1 b5 (W5.alloc (.cells #[.bool false] 4)) HP.out HC.out hval h300 (hx5.trans (hbl.mono hx5.size)) (p0 ⟨_, hx5.trans (hbl.mono hx5.size)⟩) (p1 ⟨_, hx5.trans (hbl.mono hx5.size)⟩) (p2 ⟨_, hx5.trans (hbl.mono hx5.size)⟩) (B5.below hbl)
  obtain ⟨t, hte⟩ : ∃ t, surv p p.opts.length [] = t := ⟨_, rfl⟩
  rw [hte] at hrun hT
  have h5s := B5.lt
  have hleft := Lib.hid (leaving_survey #[.pointer (some ⟨b1, 0, none⟩), .pointer (some ⟨b5, 0, none⟩)] W5 (SvEnd b5 (W5.alloc (.cells #[.bool false] 4)) t) (by
    rintro w' ⟨k, _, hg, _, _⟩
    have hk := hg.block W5.heap.size (by simp) (fun e => by cases e; omega)
    exact ⟨(World.cell?_of_block (a := ⟨W5.heap.size, 0, none⟩) hk).trans (World.cell?_alloc_at _ _ _ 0 rfl), (World.frozen?_of_block (a := ⟨W5.heap.size, 0, none⟩) hk).trans (World.frozen?_alloc_at _ _ _ 0 rfl)⟩) hrun)
  have hB25 := Lib.hid ((hB2'.out.below hx5).below hbl)
  go_wp2_with (go_at_call 115; refine hleft.out.mono ?_; rintro e w' ⟨rfl, w1, ⟨k, ⟨A9, l9, c9, rfl⟩, hg, hbx, hnd⟩, rfl⟩; have hb9 := hbx.grown (C := w1.setCell ⟨W5.heap.size, 0, none⟩ (.bool false)) (by simp [World.setCell]) (set_block (by omega)); have g0 := hb9.c0; have g1 := hb9.c1; have g2 := hb9.c2; have gz := hb9.lt; have hb29 := (hB25.out.grown hg.size (hg.block b2 hB25.out.lt (fun e => by cases e; omega))).grown (C := w1.setCell ⟨W5.heap.size, 0, none⟩ (.bool false)) (by simp [World.setCell]) (set_block (by omega)); have k0 := hb29.c0; have k1 := hb29.c1; have k2 := hb29.c2; have kf0 := hb29.f0; have kf1 := hb29.f1; have kf2 := hb29.f2; have kz := hb29.lt)
  obtain ⟨t0, t1, t2⟩ := three_set (u0 := .int .i64 t.kind) (u1 := .int .i64 t.index) (u2 := .slice A9 l9 c9) k0 k1 k2
  refine bodyPost_ret (results_ct rfl rfl (loadVar_node t0 t1 t2)) rfl ?_
  rw [hT.out]
  have hW5w : Below W.heap.size W (W5.alloc (.cells #[.bool false] 4)) := (hbw.trans (hx5.mono hbw.size)).trans (hbl.mono (Nat.le_trans hbw.size hx5.size))
  obtain ⟨y1, rfl⟩ := (⟨_, hW5w⟩ : Later W).grown hg (fun q hq => by cases hq; omega)
  have hs5 : W.heap.size ≤ W5.heap.size := Nat.le_trans hbw.size hx5.size
  obtain ⟨y2, hy2⟩ := y1.setO hs5 0 (.bool false)
  obtain ⟨z1, hz1⟩ := y2.setO hWb2 0 (.int .i64 t.kind)
  obtain ⟨z2, hz2⟩ := z1.setO hWb2 1 (.int .i64 t.index)
  obtain ⟨z3, hz3⟩ := z2.setO hWb2 2 (.slice A9 l9 c9)
  refine ⟨_, by rw [h0.out]; rfl, ⟨_, _, _, rfl⟩, z3, by rw [hy2, hz1, hz2, hz3], ?_⟩
  rw [← hz3, ← hz2, ← hz1, ← hy2]
  refine ((hnd.cov (w' := wout (fun _ => false) _) (cov_out (by simp [World.setCell]) fun q hq hP => ⟨rfl, ?_⟩) _).cov (cov_all _ _) _)
  have hk2 : W5.heap.size + 1 ≤ q := by simpa using hP
  rw [set_block (by omega), set_block (by omega), set_block (by omega), set_block (by omega)]
end Go.Proofs.Ytmpkbolabdmkkaa
