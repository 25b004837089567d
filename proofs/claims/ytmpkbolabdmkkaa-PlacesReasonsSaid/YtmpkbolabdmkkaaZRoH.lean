/- CONTRACTS of places' and the reference's Only where they err; of the reference's Clash and Reason. -/
import Derived.Test.YtmpkbolabdmkkaaZRoC
import Derived.Test.YtmpkbolabdmkkaaZRoG
import Derived.Test.YtmpkbolabdmkkaaZPlU
namespace Go.Proofs.Ytmpkbolabdmkkaa
open Go.RowKit

/-- an empty problem, and an error -/
def EndsNil (W : World) (n : Int) (e : Ending) (w' : World) : Prop := e = .returned (.tuple #[.agg #[.slice none 0 0, .slice none 0 0, .slice none 0 0], .int .i64 n]) ∧ ∃ y : Later W, w' = y.w
theorem isProb_nil (w : World) : IsProb w (.slice none 0 0) (.slice none 0 0) (.slice none 0 0) ⟨[], [], []⟩ :=
  ⟨⟨none, 0, rfl, by simp, fun _ h => absurd h (Nat.not_lt_zero _)⟩, ⟨none, 0, rfl, by simp, fun _ h => absurd h (Nat.not_lt_zero _)⟩, ⟨none, 0, rfl, by simp, fun _ h => absurd h (Nat.not_lt_zero _)⟩⟩

set_option maxRecDepth 100000 in
set_option maxHeartbeats 4000000 in
theorem pOnlyN {W : World} (x : Later W) (v0 v1 v2 vi : Value) (p : Prob) (it : List Int) (hp : IsProb W v0 v1 v2 p) (hi : IsInts W vi it) (h0 : onlyE p it ≠ 0) :
    Calls Try.prog 18 #[.agg #[v0, v1, v2], vi] x.w (EndsNil W (onlyE p it)) := by
  replace h0 := Lib.hid h0
  go_enter Try.func18, Try.ntmps18
  go_upto_region 1 with (fail)
  obtain ⟨W1, x1, e1, hb1, s1, p0, p1, p2⟩ := enter3 x v0 v1 v2 26
  rw [show x.w.heap.size + 1 = x1.w.heap.size by rw [← e1]; simp] at *
  rw [e1]; clear e1
  have HP := Lib.hid (hp.below hb1)
  have HI := Lib.hid (hi.below hb1)
  obtain ⟨ap, cp, rfl, lp, _⟩ := hp.panes.opened
  obtain ⟨ao, co, rfl, lo, _⟩ := hp.opts.opened
  obtain ⟨ar, cr, rfl, lr, _⟩ := hp.rules.opened
  obtain ⟨ai, ci, rfl, li, _⟩ := hi.opened
  clear hp hi
  obtain ⟨b4, hB4⟩ : ∃ b4, x1.w.heap.size = b4 := ⟨_, rfl⟩
  obtain ⟨W2, hW2⟩ : ∃ W2, x1.w.alloc (.cells #[.slice none 0 0, .slice none 0 0, .slice none 0 0] 26) = W2 := ⟨_, rfl⟩
  have hb2 : Below W1.heap.size W1 W2 := hW2 ▸ x1.h.alloc x1.h.size _
  have n4 : b4 < W2.heap.size := by rw [← hW2, ← hB4]; simp
  have hW14 : W1.heap.size ≤ b4 := hB4 ▸ x1.h.size
  have c40 : ∀ y : Later W2, y.w.cell? ⟨b4, 0, none⟩ = some (.slice none 0 0) := Later.cell n4 (by rw [← hW2, ← hB4]; exact World.cell?_alloc_at _ _ _ 0 rfl)
  have c41 : ∀ y : Later W2, y.w.cell? ⟨b4, 1, none⟩ = some (.slice none 0 0) := Later.cell n4 (by rw [← hW2, ← hB4]; exact World.cell?_alloc_at _ _ _ 1 rfl)
  have c42 : ∀ y : Later W2, y.w.cell? ⟨b4, 2, none⟩ = some (.slice none 0 0) := Later.cell n4 (by rw [← hW2, ← hB4]; exact World.cell?_alloc_at _ _ _ 2 rfl)
  have f40 : ∀ y : Later W2, y.w.frozen? ⟨b4, 0, none⟩ = false := Later.frozen n4 (by rw [← hW2, ← hB4]; exact World.frozen?_alloc_at _ _ _ 0 rfl)
  have f41 : ∀ y : Later W2, y.w.frozen? ⟨b4, 1, none⟩ = false := Later.frozen n4 (by rw [← hW2, ← hB4]; exact World.frozen?_alloc_at _ _ _ 1 rfl)
  have f42 : ∀ y : Later W2, y.w.frozen? ⟨b4, 2, none⟩ = false := Later.frozen n4 (by rw [← hW2, ← hB4]; exact World.frozen?_alloc_at _ _ _ 2 rfl)
  have s4 : ∀ y : Later W2, b4 < y.w.heap.size := Later.size n4
  rw [hW2, hB4]
  have hne : x.w.heap.size ≠ b4 := by have := s1 x1; omega
  clear hW2 hB4 x1
  replace HP := Lib.hid (HP.out.below hb2)
  replace HI := Lib.hid (HI.out.below hb2)
  replace p0 := Later.cells hb2 p0
  replace p1 := Later.cells hb2 p1
  replace p2 := Later.cells hb2 p2
  replace s1 := Later.sizes hb2 s1
  show Code.wp _ _ _ _ (Later.now W2).w
  generalize Later.now W2 = x1
  have hfin : Hid (∀ (y : Later W2) (n : Int), onlyE p it = n → EndsNil W (onlyE p it) (.returned (.tuple #[.agg #[.slice none 0 0, .slice none 0 0, .slice none 0 0], .int .i64 n])) (((y.w.setCell ⟨b4, 0, none⟩ (.slice none 0 0)).setCell ⟨b4, 1, none⟩ (.slice none 0 0)).setCell ⟨b4, 2, none⟩ (.slice none 0 0))) := Lib.hid (fun y n hn => by
    obtain ⟨z, hz⟩ : ∃ z : Later W, y.w = z.w := ⟨⟨y.w, below_then (hb1.trans (hb2.mono hb1.size)) y⟩, rfl⟩
    have hle : W.heap.size ≤ b4 := Nat.le_trans hb1.size hW14
    obtain ⟨z1, hz1⟩ := z.setO hle 0 (.slice none 0 0)
    obtain ⟨z2, hz2⟩ := z1.setO hle 1 (.slice none 0 0)
    obtain ⟨z3, hz3⟩ := z2.setO hle 2 (.slice none 0 0)
    rw [hz, hz1, hz2, hz3]
    exact ⟨by rw [hn], z3, rfl⟩)
  have hV := Lib.hid (fun y : Later W2 => pValid y _ _ _ p HP.out)
  cases hv : validP p
  · rw [hv] at hV
    go_wp2_with (go_at_call 36; refine (hV.out x1).mono ?_; rintro e w' ⟨rfl, x1, rfl⟩)
    obtain ⟨t0, t1, t2⟩ := three_set (u0 := .slice none 0 0) (u1 := .slice none 0 0) (u2 := .slice none 0 0) (c40 x1) (c41 x1) (c42 x1)
    refine bodyPost_ret (results_ct rfl rfl (loadVar_prob t0 t1 t2)) rfl ?_
    exact hfin.out x1 _ (onlyE_70 hv)
  rw [hv] at hV
  obtain ⟨_, _, hqq, _, hits⟩ := HI.out.opened
  cases hqq
  go_wp2_with (go_at_call 36; refine (hV.out x1).mono ?_; rintro e w' ⟨rfl, x1, rfl⟩)
  go_loopw [20] (fun iv wr => ∃ k : Nat, k ≤ it.length ∧ iv = .int .i64 k ∧ (∃ y : Later W2, wr = y.w) ∧ (∀ i, i < k → 0 < i → nth it (i - 1) < nth it i)) (fun iv _ => it.length - (intOf iv).toNat)
  case atStart => exact ⟨0, Nat.zero_le _, rfl, ⟨x1, rfl⟩, by omega⟩
  case round =>
    clear x1
    obtain ⟨k, hk, rfl, ⟨x1, rfl⟩, hz⟩ := hrel
    replace hz := Lib.hid hz
    by_cases hlt : k < it.length
    · obtain ⟨bi, oi, rfl, hbi, d1⟩ := hits.out k hlt
      by_cases hk0 : 0 < k
      · obtain ⟨_, _, he, _, d0⟩ := hits.out (k - 1) (by omega)
        cases he
        have hsub : ((k : Int) - 1).toNat = k - 1 := by omega
        cases hA : decide (nth it k ≤ nth it (k - 1))
        · go_wp2
          go_roundw
          case rel => exact ⟨k + 1, by omega, by go_num, ⟨x1, rfl⟩, all_step hz.out (fun _ => by simpa using hA)⟩
          case measure => simp [intOf]; omega
        · have hbad : Hid (onlyE p it = 1) := Lib.hid (onlyE_1 hv (risingB_no hlt hk0 (by simpa using hA)))
          go_wp2
          obtain ⟨t0, t1, t2⟩ := three_set (u0 := .slice none 0 0) (u1 := .slice none 0 0) (u2 := .slice none 0 0) (c40 x1) (c41 x1) (c42 x1)
          refine bodyPost_ret (results_ct rfl rfl (loadVar_prob t0 t1 t2)) rfl ?_
          exact hfin.out x1 _ hbad.out
      · go_wp2
        go_roundw
        case rel => exact ⟨k + 1, by omega, by go_num, ⟨x1, rfl⟩, all_step hz.out (fun h => absurd h hk0)⟩
        case measure => simp [intOf]; omega
    · obtain rfl : k = it.length := by omega
      exact absurd (onlyE_0 hv (risingB_yes hz.out)) h0.out

set_option maxRecDepth 100000 in
set_option maxHeartbeats 4000000 in
theorem rOnlyN {W : World} (x : Later W) (v0 v1 v2 vi : Value) (p : Prob) (it : List Int) (hp : IsProb W v0 v1 v2 p) (hi : IsInts W vi it) (h0 : onlyE p it ≠ 0) :
    Calls Try.prog 19 #[.agg #[v0, v1, v2], vi] x.w (EndsNil W (onlyE p it)) := by
  replace h0 := Lib.hid h0
  go_enter Try.func19, Try.ntmps19
  go_upto_region 1 with (fail)
  obtain ⟨W1, x1, e1, hb1, s1, p0, p1, p2⟩ := enter3 x v0 v1 v2 26
  rw [show x.w.heap.size + 1 = x1.w.heap.size by rw [← e1]; simp] at *
  rw [e1]; clear e1
  have HP := Lib.hid (hp.below hb1)
  have HI := Lib.hid (hi.below hb1)
  obtain ⟨ap, cp, rfl, lp, _⟩ := hp.panes.opened
  obtain ⟨ao, co, rfl, lo, _⟩ := hp.opts.opened
  obtain ⟨ar, cr, rfl, lr, _⟩ := hp.rules.opened
  obtain ⟨ai, ci, rfl, li, _⟩ := hi.opened
  clear hp hi
  obtain ⟨b4, hB4⟩ : ∃ b4, x1.w.heap.size = b4 := ⟨_, rfl⟩
  obtain ⟨W2, hW2⟩ : ∃ W2, x1.w.alloc (.cells #[.slice none 0 0, .slice none 0 0, .slice none 0 0] 26) = W2 := ⟨_, rfl⟩
  have hb2 : Below W1.heap.size W1 W2 := hW2 ▸ x1.h.alloc x1.h.size _
  have n4 : b4 < W2.heap.size := by rw [← hW2, ← hB4]; simp
  have hW14 : W1.heap.size ≤ b4 := hB4 ▸ x1.h.size
  have c40 : ∀ y : Later W2, y.w.cell? ⟨b4, 0, none⟩ = some (.slice none 0 0) := Later.cell n4 (by rw [← hW2, ← hB4]; exact World.cell?_alloc_at _ _ _ 0 rfl)
  have c41 : ∀ y : Later W2, y.w.cell? ⟨b4, 1, none⟩ = some (.slice none 0 0) := Later.cell n4 (by rw [← hW2, ← hB4]; exact World.cell?_alloc_at _ _ _ 1 rfl)
  have c42 : ∀ y : Later W2, y.w.cell? ⟨b4, 2, none⟩ = some (.slice none 0 0) := Later.cell n4 (by rw [← hW2, ← hB4]; exact World.cell?_alloc_at _ _ _ 2 rfl)
  have f40 : ∀ y : Later W2, y.w.frozen? ⟨b4, 0, none⟩ = false := Later.frozen n4 (by rw [← hW2, ← hB4]; exact World.frozen?_alloc_at _ _ _ 0 rfl)
  have f41 : ∀ y : Later W2, y.w.frozen? ⟨b4, 1, none⟩ = false := Later.frozen n4 (by rw [← hW2, ← hB4]; exact World.frozen?_alloc_at _ _ _ 1 rfl)
  have f42 : ∀ y : Later W2, y.w.frozen? ⟨b4, 2, none⟩ = false := Later.frozen n4 (by rw [← hW2, ← hB4]; exact World.frozen?_alloc_at _ _ _ 2 rfl)
  have s4 : ∀ y : Later W2, b4 < y.w.heap.size := Later.size n4
  rw [hW2, hB4]
  have hne : x.w.heap.size ≠ b4 := by have := s1 x1; omega
  clear hW2 hB4 x1
  replace HP := Lib.hid (HP.out.below hb2)
  replace HI := Lib.hid (HI.out.below hb2)
  replace p0 := Later.cells hb2 p0
  replace p1 := Later.cells hb2 p1
  replace p2 := Later.cells hb2 p2
  replace s1 := Later.sizes hb2 s1
  show Code.wp _ _ _ _ (Later.now W2).w
  generalize Later.now W2 = x1
  have hfin : Hid (∀ (y : Later W2) (n : Int), onlyE p it = n → EndsNil W (onlyE p it) (.returned (.tuple #[.agg #[.slice none 0 0, .slice none 0 0, .slice none 0 0], .int .i64 n])) (((y.w.setCell ⟨b4, 0, none⟩ (.slice none 0 0)).setCell ⟨b4, 1, none⟩ (.slice none 0 0)).setCell ⟨b4, 2, none⟩ (.slice none 0 0))) := Lib.hid (fun y n hn => by
    obtain ⟨z, hz⟩ : ∃ z : Later W, y.w = z.w := ⟨⟨y.w, below_then (hb1.trans (hb2.mono hb1.size)) y⟩, rfl⟩
    have hle : W.heap.size ≤ b4 := Nat.le_trans hb1.size hW14
    obtain ⟨z1, hz1⟩ := z.setO hle 0 (.slice none 0 0)
    obtain ⟨z2, hz2⟩ := z1.setO hle 1 (.slice none 0 0)
    obtain ⟨z3, hz3⟩ := z2.setO hle 2 (.slice none 0 0)
    rw [hz, hz1, hz2, hz3]
    exact ⟨by rw [hn], z3, rfl⟩)
  have hV := Lib.hid (fun y : Later W2 => rValid y _ _ _ p HP.out)
  cases hv : validP p
  · rw [hv] at hV
    go_wp2_with (go_at_call 27; refine (hV.out x1).mono ?_; rintro e w' ⟨rfl, x1, rfl⟩)
    obtain ⟨t0, t1, t2⟩ := three_set (u0 := .slice none 0 0) (u1 := .slice none 0 0) (u2 := .slice none 0 0) (c40 x1) (c41 x1) (c42 x1)
    refine bodyPost_ret (results_ct rfl rfl (loadVar_prob t0 t1 t2)) rfl ?_
    exact hfin.out x1 _ (onlyE_70 hv)
  rw [hv] at hV
  have hR := Lib.hid (fun y : Later W2 => rrising y _ it HI.out)
  cases hri : risingB it
  · rw [hri] at hR
    have hbad : Hid (onlyE p it = 1) := Lib.hid (onlyE_1 hv hri)
    go_wp2_with (first | (go_at_call 27; refine (hV.out x1).mono ?_; rintro e w' ⟨rfl, x1, rfl⟩) | (go_at_call 76; refine (hR.out x1).mono ?_; rintro e w' ⟨rfl, x1, rfl⟩))
    obtain ⟨t0, t1, t2⟩ := three_set (u0 := .slice none 0 0) (u1 := .slice none 0 0) (u2 := .slice none 0 0) (c40 x1) (c41 x1) (c42 x1)
    refine bodyPost_ret (results_ct rfl rfl (loadVar_prob t0 t1 t2)) rfl ?_
    exact hfin.out x1 _ hbad.out
  exact absurd (onlyE_0 hv hri) h0.out

set_option maxRecDepth 100000 in
set_option maxHeartbeats 1000000 in
theorem rClash {W : World} (x : Later W) (v0 v1 v2 : Value) (p : Prob) (hp : IsProb W v0 v1 v2 p) :
    Calls Try.prog 23 #[.agg #[v0, v1, v2]] x.w (EndsIntsE W (clashL p) (clashE p)) := by
  have hnil : clashE p ≠ 0 → ∀ w : World, IsInts w (.slice none 0 0) (clashL p) := fun h w => by
    unfold clashL; rw [if_neg h]; exact isInts_nil w
  replace hnil := Lib.hid hnil
  go_enter Try.func23, Try.ntmps23
  go_upto_region 1 with (fail)
  obtain ⟨W1, x1, e1, hb1, s1, p0, p1, p2⟩ := enter3 x v0 v1 v2 26
  rw [e1]; clear e1
  have HP := Lib.hid (hp.below hb1)
  obtain ⟨ap, cp, rfl, lp, _⟩ := hp.panes.opened
  obtain ⟨ao, co, rfl, lo, _⟩ := hp.opts.opened
  obtain ⟨ar, cr, rfl, lr, _⟩ := hp.rules.opened
  clear hp
  by_cases h0 : largeE p = 0
  · have hb0 : (largeE p != 0) = false := by simp [h0]
    have hv := Lib.hid (largeE_0.1 h0)
    have hres : Hid (clashE p = if (clashO p).isSome then 0 else 3) := Lib.hid (by simp [clashE, h0])
    clear h0
    have hC := Lib.hid (fun y : Later W1 => rreason y _ _ _ p (-1) 0 (fun _ => true) HP.out hv.out.1 hv.out.2 (by omega) (fun k _ => by simp))
    have e2 : leastO p (fun _ => true) = clashO p := rfl
    rw [e2] at hC
    clear e2
    cases hO : clashO p with
    | none =>
      rw [hO] at hC hres
      have hE : Hid (clashE p = 3) := Lib.hid (by rw [hres.out]; rfl)
      simp only [Option.getD_none, Option.isSome_none] at hC
      go_wp2_with (first | (go_at_call 82; refine (rlarge x1 _ _ _ p HP.out).mono ?_; rintro e w' ⟨rfl, x1, rfl⟩) | (go_at_call 83; refine (hC.out x1).mono ?_; rintro e w' ⟨v, rfl, y, rfl, hI⟩; obtain ⟨a5, c5, rfl, hx1, hx2⟩ := hI; clear hx1 hx2))
      go_ret2
      obtain ⟨z, hz⟩ := y.down hb1
      exact ⟨_, by rw [hE.out]; rfl, z, hz, hnil.out (by rw [hE.out]; decide) _⟩
    | some l =>
      rw [hO] at hC hres
      have hE : Hid (clashE p = 0) := Lib.hid (by rw [hres.out]; rfl)
      have hL : Hid (clashL p = l) := Lib.hid (by unfold clashL; rw [if_pos hE.out, hO]; rfl)
      simp only [Option.getD_some, Option.isSome_some] at hC
      go_wp2_with (first | (go_at_call 82; refine (rlarge x1 _ _ _ p HP.out).mono ?_; rintro e w' ⟨rfl, x1, rfl⟩) | (go_at_call 83; refine (hC.out x1).mono ?_; rintro e w' ⟨v, rfl, y, rfl, hI⟩; have I2 := Lib.hid hI; obtain ⟨a5, c5, rfl, hx1, hx2⟩ := hI; clear hx1 hx2))
      go_ret2
      obtain ⟨z, hz⟩ := y.down hb1
      exact ⟨_, by rw [hE.out]; rfl, z, hz, by rw [hL.out, ← hz]; exact I2.out⟩
  · have hb0 : (largeE p != 0) = true := by simp [h0]
    have hE : Hid (clashE p = largeE p) := Lib.hid (by simp [clashE, h0])
    have hne := Lib.hid h0
    clear h0
    go_wp2_with (go_at_call 82; refine (rlarge x1 _ _ _ p HP.out).mono ?_; rintro e w' ⟨rfl, x1, rfl⟩)
    go_ret2
    obtain ⟨z, hz⟩ := x1.down hb1
    exact ⟨_, by rw [hE.out]; rfl, z, hz, hnil.out (by rw [hE.out]; exact hne.out) _⟩

set_option maxRecDepth 100000 in
set_option maxHeartbeats 1000000 in
theorem rReason {W : World} (x : Later W) (v0 v1 v2 : Value) (p : Prob) (pane o : Int) (hp : IsProb W v0 v1 v2 p) :
    Calls Try.prog 25 #[.agg #[v0, v1, v2], .int .i64 pane, .int .i64 o] x.w (EndsIntsE W (reasonL p pane o) (reasonE p pane o)) := by
  have hnil : reasonE p pane o ≠ 0 → ∀ w : World, IsInts w (.slice none 0 0) (reasonL p pane o) := fun h w => by
    unfold reasonL; rw [if_neg h]; exact isInts_nil w
  replace hnil := Lib.hid hnil
  go_enter Try.func25, Try.ntmps25
  go_upto_region 1 with (fail)
  obtain ⟨W1, x1, e1, hb1, s1, p0, p1, p2⟩ := enter3 x v0 v1 v2 26
  rw [e1]; clear e1
  have HP := Lib.hid (hp.below hb1)
  obtain ⟨ap, cp, rfl, lp, _⟩ := hp.panes.opened
  obtain ⟨ao, co, rfl, lo, _⟩ := hp.opts.opened
  obtain ⟨ar, cr, rfl, lr, _⟩ := hp.rules.opened
  clear hp
  cases hv : validP p
  · have hE : Hid (reasonE p pane o = 70) := Lib.hid (by simp [reasonE, askE, hv])
    go_wp2_with (go_at_call 27; refine (rValid x1 _ _ _ p HP.out).mono ?_; rintro e w' ⟨rfl, x1, rfl⟩)
    go_ret2
    obtain ⟨z, hz⟩ := x1.down hb1
    exact ⟨_, by rw [hE.out]; rfl, z, hz, hnil.out (by rw [hE.out]; decide) _⟩
  have hlen := Lib.hid (valid_len hv)
  cases hth : thereB p pane o
  · have hE : Hid (reasonE p pane o = 1) := Lib.hid (by simp [reasonE, askE, hv, hth])
    go_wp2_with (first | (go_at_call 27; refine (rValid x1 _ _ _ p HP.out).mono ?_; rintro e w' ⟨rfl, x1, rfl⟩) | (go_at_call 69; refine (rthere x1 _ _ _ p pane o HP.out hlen.out).mono ?_; rintro e w' ⟨rfl, x1, rfl⟩))
    go_ret2
    obtain ⟨z, hz⟩ := x1.down hb1
    exact ⟨_, by rw [hE.out]; rfl, z, hz, hnil.out (by rw [hE.out]; decide) _⟩
  have h300 := Lib.hid (fun i (hi : i < p.opts.length) => Nat.le_trans (valid_opts hv hi).2 (show 256 ≤ 300 by decide))
  have hgt := rspace_gt hv
  by_cases ht : 65536 < total p
  · have hA : decide (65536 < rspace p) = true := by simpa [hgt] using ht
    have hE : Hid (reasonE p pane o = 2) := Lib.hid (by simp [reasonE, askE, hv, hth, ht])
    clear hgt ht
    go_wp2_with (first | (go_at_call 27; refine (rValid x1 _ _ _ p HP.out).mono ?_; rintro e w' ⟨rfl, x1, rfl⟩) | (go_at_call 69; refine (rthere x1 _ _ _ p pane o HP.out hlen.out).mono ?_; rintro e w' ⟨rfl, x1, rfl⟩) | (go_at_call 70; refine (rspace_walk x1 _ _ _ p HP.out h300.out).mono ?_; rintro e w' ⟨rfl, x1, rfl⟩))
    go_ret2
    obtain ⟨z, hz⟩ := x1.down hb1
    exact ⟨_, by rw [hE.out]; rfl, z, hz, hnil.out (by rw [hE.out]; decide) _⟩
  have hA : decide (65536 < rspace p) = false := by simpa [hgt] using ht
  have hres : Hid (reasonE p pane o = if (reasonO p pane o).isSome then 0 else 3) := Lib.hid (by simp [reasonE, askE, hv, hth, ht])
  have hpane : 0 ≤ pane ∧ pane < p.opts.length := by
    have h1 := hth; unfold thereB at h1; rw [Bool.and_eq_true] at h1
    have := wi_iff.1 h1.1; have := hlen.out; omega
  have hC := Lib.hid (fun y : Later W1 => rreason y _ _ _ p pane o (hasB pane o) HP.out hv (by omega) hpane.2 (fun k _ => by unfold hasB; rw [decide_eq_false (by omega), Bool.false_or]))
  have e2 : leastO p (hasB pane o) = reasonO p pane o := rfl
  rw [e2] at hC
  clear e2 hgt ht hpane
  cases hO : reasonO p pane o with
  | none =>
    rw [hO] at hC hres
    have hE : Hid (reasonE p pane o = 3) := Lib.hid (by rw [hres.out]; rfl)
    simp only [Option.getD_none, Option.isSome_none] at hC
    go_wp2_with (first | (go_at_call 27; refine (rValid x1 _ _ _ p HP.out).mono ?_; rintro e w' ⟨rfl, x1, rfl⟩) | (go_at_call 69; refine (rthere x1 _ _ _ p pane o HP.out hlen.out).mono ?_; rintro e w' ⟨rfl, x1, rfl⟩) | (go_at_call 70; refine (rspace_walk x1 _ _ _ p HP.out h300.out).mono ?_; rintro e w' ⟨rfl, x1, rfl⟩) | (go_at_call 83; refine (hC.out x1).mono ?_; rintro e w' ⟨v, rfl, y, rfl, hI⟩; obtain ⟨a5, c5, rfl, hx1, hx2⟩ := hI; clear hx1 hx2))
    go_ret2
    obtain ⟨z, hz⟩ := y.down hb1
    exact ⟨_, by rw [hE.out]; rfl, z, hz, hnil.out (by rw [hE.out]; decide) _⟩
  | some l =>
    rw [hO] at hC hres
    have hE : Hid (reasonE p pane o = 0) := Lib.hid (by rw [hres.out]; rfl)
    have hL : Hid (reasonL p pane o = l) := Lib.hid (by unfold reasonL; rw [if_pos hE.out, hO]; rfl)
    simp only [Option.getD_some, Option.isSome_some] at hC
    go_wp2_with (first | (go_at_call 27; refine (rValid x1 _ _ _ p HP.out).mono ?_; rintro e w' ⟨rfl, x1, rfl⟩) | (go_at_call 69; refine (rthere x1 _ _ _ p pane o HP.out hlen.out).mono ?_; rintro e w' ⟨rfl, x1, rfl⟩) | (go_at_call 70; refine (rspace_walk x1 _ _ _ p HP.out h300.out).mono ?_; rintro e w' ⟨rfl, x1, rfl⟩) | (go_at_call 83; refine (hC.out x1).mono ?_; rintro e w' ⟨v, rfl, y, rfl, hI⟩; have I2 := Lib.hid hI; obtain ⟨a5, c5, rfl, hx1, hx2⟩ := hI; clear hx1 hx2))
    go_ret2
    obtain ⟨z, hz⟩ := y.down hb1
    exact ⟨_, by rw [hE.out]; rfl, z, hz, by rw [hL.out, ← hz]; exact I2.out⟩
end Go.Proofs.Ytmpkbolabdmkkaa
