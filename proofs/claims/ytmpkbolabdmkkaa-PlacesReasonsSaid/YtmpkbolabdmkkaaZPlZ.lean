/- CONTRACT of places' Witness. -/
import Derived.Test.YtmpkbolabdmkkaaZPlY
import Derived.Test.YtmpkbolabdmkkaaZPlU
import Derived.BigRegionIn
namespace Go.Proofs.Ytmpkbolabdmkkaa
open Go.RowKit

/-- two results' boxes -/
theorem enterRR {W1 : World} (x1 : Later W1) (u2 u3 : Value) (T2 T3 : TypeId) : ∃ W2 : World, ((x1.w.alloc (.cells #[u2] T2)).alloc (.cells #[u3] T3)) = W2 ∧ Below W1.heap.size W1 W2 ∧ W2.heap.size = x1.w.heap.size + 2 ∧
    (∀ y : Later W2, y.w.cell? ⟨x1.w.heap.size, 0, none⟩ = some u2 ∧ y.w.frozen? ⟨x1.w.heap.size, 0, none⟩ = false) ∧ ∀ y : Later W2, y.w.cell? ⟨x1.w.heap.size + 1, 0, none⟩ = some u3 ∧ y.w.frozen? ⟨x1.w.heap.size + 1, 0, none⟩ = false := by
  refine ⟨_, rfl, (x1.h.alloc x1.h.size _).alloc (by have := x1.h.size; simp; omega) _, by simp, ?_, ?_⟩
  · refine fun y => ⟨Later.cell (by simp; omega) ?_ y, Later.frozen (by simp; omega) ?_ y⟩
    · exact (World.cell?_alloc_past _ _ 0 (by simp)).trans (World.cell?_alloc_at _ T2 _ 0 rfl)
    · exact (World.frozen?_alloc_past _ _ 0 (by simp)).trans (World.frozen?_alloc_at _ T2 _ 0 rfl)
  · refine fun y => ⟨Later.cell (by simp) ?_ y, Later.frozen (by simp) ?_ y⟩
    · exact World.cell?_alloc_at _ T3 _ 0 (by simp)
    · exact World.frozen?_alloc_at _ T3 _ 0 (by simp)

theorem witE_ask (p : Prob) (pane o : Int) : witE p pane o = if askE p (thereB p pane o) ≠ 0 then askE p (thereB p pane o) else if ((agr p).find? (hasB pane o)).isSome then 0 else 3 := by
  unfold witE askE
  cases validP p <;> cases thereB p pane o <;> by_cases h : 65536 < total p <;> simp [h] <;> omega

set_option maxRecDepth 100000 in
set_option maxHeartbeats 2000000 in
theorem pWitness {W : World} (x : Later W) (v0 v1 v2 : Value) (p : Prob) (pane o : Int) (hp : IsProb W v0 v1 v2 p) :
    Calls Try.prog 16 #[.agg #[v0, v1, v2], .int .i64 pane, .int .i64 o] x.w (EndsIntsE W (witL p pane o) (witE p pane o)) := by
  refine (callsIn_wide (n := 0)).1 (callsIn_of_wp_marks (F := Fence.wide) (n := 0) Try.func16 rfl trivial ?_ rfl)
  refine (wpIn_wide (n := 0)).2 ?_
  simp only [Try.ntmps16, List.size_toArray, List.length_cons, List.length_nil, Nat.reduceAdd, Nat.reduceSub, Array.replicate_succ, Array.replicate_zero, List.push_toArray, List.append_toArray, List.nil_append, List.cons_append]
  go_upto_region 1 with (fail)
  obtain ⟨W1, x1, e1, hb1, ⟨s1, s2, s3⟩, ⟨p0, p1, p2⟩, q0, r0⟩ := enter311 x v0 v1 v2 (.int .i64 pane) (.int .i64 o) 26 3 3
  have hx1 : x1.w.heap.size = x.w.heap.size + 1 + 1 + 1 := by rw [← e1]; simp
  rw [e1]
  obtain ⟨W2, e2, hb2, hs2, c2, c3⟩ := enterRR x1 (.slice none 0 0) (.int .i64 0) 22 29
  rw [← hx1, e2]
  clear e1 e2
  have c2a := fun y => (c2 y).1
  have c2b := fun y => (c2 y).2
  have c3a := fun y => (c3 y).1
  have c3b := fun y => (c3 y).2
  clear c2 c3
  replace s1 := Later.sizes hb2 s1
  replace s2 := Later.sizes hb2 s2
  replace s3 := Later.sizes hb2 s3
  replace p0 := Later.cells hb2 p0
  replace p1 := Later.cells hb2 p1
  replace p2 := Later.cells hb2 p2
  have HP1 := Lib.hid (hp.below hb1)
  have HP := Lib.hid (HP1.out.below hb2)
  have Q0 := Later.cells hb2 q0
  have R0 := Later.cells hb2 r0
  obtain ⟨ap, cp, rfl, lp, _⟩ := hp.panes.opened
  obtain ⟨ao, co, rfl, lo, _⟩ := hp.opts.opened
  obtain ⟨ar, cr, rfl, lr, _⟩ := hp.rules.opened
  have hb12 := hb1.trans (hb2.mono hb1.size)
  have hW1b := x1.h.size
  have hWW := hb1.size
  replace hs2 := Lib.hid hs2
  obtain ⟨b2, hB2⟩ : ∃ b2, x1.w.heap.size = b2 := ⟨_, rfl⟩
  rw [hB2] at c2a c2b c3a c3b hW1b hs2 ⊢
  have hne : (⟨b2, 0, none⟩ : Addr) ≠ ⟨b2 + 1, 0, none⟩ := by simp
  clear hp hx1 hB2 x1
  have fin : Hid (∀ (y : Later W2) (e : Int), witE p pane o = e → e ≠ 0 → EndsIntsE W (witL p pane o) (witE p pane o) (.returned (.tuple #[.slice none 0 0, .int .i64 e])) ((y.w.setCell ⟨b2, 0, none⟩ (.slice none 0 0)).setCell ⟨b2 + 1, 0, none⟩ (.int .i64 e))) := Lib.hid (by
    intro y e he hne
    obtain ⟨z, hz⟩ := y.down hb12
    rw [hz]
    obtain ⟨z1, hz1⟩ := z.set (b := b2) (by omega) (.slice none 0 0)
    obtain ⟨z2, hz2⟩ := z1.set (b := b2 + 1) (by omega) (.int .i64 e)
    rw [hz1, hz2]
    exact ⟨_, by rw [he], z2, rfl, by unfold witL; rw [if_neg (by rw [he]; exact hne)]; exact isInts_nil _⟩)
  show Code.wp _ _ _ _ (Later.now W2).w
  cases hv : validP p
  case false =>
    have hres : Hid (witE p pane o = 70) := Lib.hid (by rw [witE_ask]; simp [askE, hv])
    go_wp2_with (go_at_call 36; refine (pValid _ _ _ _ p HP.out).mono ?_; rintro e w' ⟨rfl, x1, rfl⟩)
    obtain ⟨t2, t3⟩ := two_set (Nat.ne_of_lt (Nat.lt_succ_self b2)) (c2a x1) (c3a x1) (.slice none 0 0) (.int .i64 70)
    refine leaves_none (results_cell2 6 7 rfl rfl rfl (loadVar_cell (.inl rfl) t2) (loadVar_cell (.inr rfl) t3)) ?_
    exact fin.out x1 70 hres.out (by decide)
  have hlen := Lib.hid (valid_len hv)
  go_wp2_with (go_at_call 36; refine (pValid _ _ _ _ p HP.out).mono ?_; rintro e w' ⟨rfl, x1, rfl⟩)
  refine wp_region_later x1 (by kernel_rfl) (by kernel_rfl) ?_
  repeat (go_big_quiet_step ((first | (go_at_call 66; exact phas _ _ _ _ _ _ _ HP.out hlen.out) | (go_at_call 65; exact pasked _ _ _ _ _ _ HP.out))))
  refine wpQuiet_nil ?_
  rintro _ ⟨x1, rfl⟩
  by_cases h0 : askE p (thereB p pane o) = 0
  case neg =>
    have hb0 : (askE p (thereB p pane o) != 0) = true := by simp [h0]
    have hres : Hid (witE p pane o = askE p (thereB p pane o)) := Lib.hid (by rw [witE_ask, if_pos h0])
    replace h0 := Lib.hid h0
    go_wp2
    obtain ⟨t2, t3⟩ := two_set (Nat.ne_of_lt (Nat.lt_succ_self b2)) (c2a x1) (c3a x1) (.slice none 0 0) (.int .i64 (askE p (thereB p pane o)))
    refine leaves_none (results_cell2 6 7 rfl rfl rfl (loadVar_cell (.inl rfl) t2) (loadVar_cell (.inr rfl) t3)) ?_
    exact fin.out x1 _ hres.out h0.out
  have hb0 : (askE p (thereB p pane o) != 0) = false := by simp [h0]
  have hWE : Hid (witE p pane o = if ((agr p).find? (hasB pane o)).isSome then 0 else 3) := Lib.hid (by rw [witE_ask]; simp [h0])
  obtain ⟨_, hth, _⟩ := askE_0.1 h0
  have hth1 : wi pane 0 ((p.panes.length : Int) - 1) = true := by unfold thereB at hth; rw [Bool.and_eq_true] at hth; exact hth.1
  obtain ⟨hp0, hp1⟩ : 0 ≤ pane ∧ pane ≤ (p.panes.length : Int) - 1 := by simpa [wi] using hth1
  clear hth hth1 h0
  have hmem := Lib.hid (fun f (hf : f ∈ agr p) => agr_mem hv hf)
  go_upto_region 7 with (go_at_call 67; refine (pagreeing (Later.now x1.w) _ _ _).mono ?_; rintro e w' ⟨bq, rfl, y, rfl, hq1, hq2⟩)
  have hsx : b2 + 1 < x1.w.heap.size := by have h1 := x1.h.size; have h2 := hs2.out; omega
  obtain ⟨xx, hxx⟩ := x1.step y.h
  have hby : b2 + 1 < y.w.heap.size := by have := y.h.size; change x1.w.heap.size ≤ _ at this; omega
  have d2a := c2a xx
  have d2b := c2b xx
  have d3a := c3a xx
  have d3b := c3b xx
  rw [← hxx] at d2a d2b d3a d3b
  have hly : ∃ z : Later W1, y.w = z.w := by obtain ⟨z, hz⟩ := xx.down hb2; exact ⟨z, hxx.trans hz⟩
  have hq3 : RdP W1 bq (.slice ap p.panes.length cp) (.slice ao p.opts.length co) (.slice ar p.rules.length cr) y.w := ⟨hly, hq2.lt, hq2.c0, hq2.c1, hq2.c2⟩
  change x1.w.heap.size ≤ bq at hq1
  have hbq : b2 + 1 < bq := by omega
  obtain ⟨w, hw⟩ : ∃ w, y.w = w := ⟨_, rfl⟩
  rw [hw] at hby d2a d2b d3a d3b hly hq3 ⊢
  clear hq2 hw hxx xx y hq1 hsx c2a c2b c3a c3b
  refine (wpIn_wide (n := 0)).1 ?_
  refine' wpIn_rangeL (gf := 124) rfl (enters_of Try.func124 (by kernel_rfl) rfl) rfl (RdP W1 bq (.slice ap p.panes.length cp) (.slice ao p.opts.length co) (.slice ar p.rules.length cr)) (agr p) ?iter
    (fun k A => (∃ z : Later W1, A = z.w) ∧ (A.cell? ⟨b2, 0, none⟩ = some (.slice none 0 0) ∧ A.frozen? ⟨b2, 0, none⟩ = false) ∧ (A.cell? ⟨b2 + 1, 0, none⟩ = some (.int .i64 0) ∧ A.frozen? ⟨b2 + 1, 0, none⟩ = false) ∧ ∀ i, i < k → hasB pane o (nth (agr p) i) = false)
    (fun c A => c = .ret ∧ (∃ z : Later W1, A = z.w) ∧ ∃ v L, A.cell? ⟨b2, 0, none⟩ = some v ∧ A.cell? ⟨b2 + 1, 0, none⟩ = some (.int .i64 0) ∧ IsInts A v L ∧ (agr p).find? (hasB pane o) = some L) ?hI ?hIx ?hRd ⟨hly, ⟨d2a, d2b⟩, ⟨d3a, d3b⟩, fun i h => absurd h (Nat.not_lt_zero _)⟩ hq3 _ ?assign ?body ?done ?stop
  case assign =>
    intro l v W K hK
    have hS := @Oper.semAt_some
    gi_wp2
    exact hK
  case iter => exact fun W2 hb2 hr2 => iterAgr bq _ _ _ p HP1.out hv hr2
  case hI => exact fun k A B ⟨h2, ⟨h3, h4⟩, ⟨h5, h6⟩, h7⟩ he => ⟨he.later (by omega) h2, ⟨(he.cell (p := ⟨b2, 0, none⟩) (by show b2 < _; omega)).trans h3, (he.frozen (p := ⟨b2, 0, none⟩) (by show b2 < _; omega)).trans h4⟩, ⟨(he.cell (p := ⟨b2 + 1, 0, none⟩) hby).trans h5, (he.frozen (p := ⟨b2 + 1, 0, none⟩) hby).trans h6⟩, h7⟩
  case hIx => exact fun c A B ⟨h1, h2, v, L, h3, h4, h5, h6⟩ he => ⟨h1, he.toEqb.later (by omega) h2, v, L, he.cell h3, he.cell h4, h5.calm he, h6⟩
  case hRd => exact fun A B h he => h.eqb he (by omega) hq3.lt
  case stop =>
    rintro D c A hD ⟨rfl, hl, v, L, h3, h4, h5, h6⟩ hdf
    refine (wpIn_wide (n := 0)).2 ?_
    go_wp2
    have hcm : Calm W1.heap.size A (A.putObj D (.deferred none)) := Calm.putObj hdf rfl (by omega) _
    refine leaves_mark hdf (results_cell2 6 7 rfl rfl rfl (loadVar_cell (.inl rfl) (hcm.cell h3)) (loadVar_cell (.inr rfl) (hcm.cell h4))) ?_
    obtain ⟨z, hz⟩ := hcm.toEqb.later (Nat.le_refl _) hl
    have h7 := h5.calm hcm
    obtain ⟨z1, hz1⟩ := z.down hb1
    rw [hz, hz1] at h7 ⊢
    have he : witE p pane o = 0 := by rw [hWE.out, h6]; rfl
    exact ⟨_, by rw [he], z1, rfl, by unfold witL; rw [if_pos he, h6]; exact h7⟩
  case done =>
    rintro D A hD ⟨⟨z, rfl⟩, ⟨h3, h4⟩, ⟨h5, h6⟩, hno⟩ hdf
    replace hno := Lib.hid hno
    go_wp2
    obtain ⟨t2, t3⟩ := two_set (Nat.ne_of_lt (Nat.lt_succ_self b2)) h3 h5 (.slice none 0 0) (.int .i64 3)
    have hdf2 := (heap_two (A := z.w) (b2 := b2) (b3 := b2 + 1) (D := D) (v := .slice none 0 0) (v' := .int .i64 3) (by omega) (by omega)).trans hdf
    have hcm : Calm W1.heap.size _ _ := Calm.putObj hdf2 rfl (by omega) (.deferred none)
    refine leaves_mark hdf2 (results_cell2 6 7 rfl rfl rfl (loadVar_cell (.inl rfl) (hcm.cell t2)) (loadVar_cell (.inr rfl) (hcm.cell t3))) ?_
    obtain ⟨z1, hz1⟩ := z.set (b := b2) hW1b (.slice none 0 0)
    obtain ⟨z2, hz2⟩ := z1.set (b := b2 + 1) (by omega) (.int .i64 3)
    rw [hz1, hz2] at hcm ⊢
    obtain ⟨z3, hz3⟩ := hcm.toEqb.later (Nat.le_refl _) ⟨z2, rfl⟩
    obtain ⟨z4, hz4⟩ := z3.down hb1
    rw [hz3, hz4]
    have he : witE p pane o = 3 := by rw [hWE.out, find_none hno.out]; rfl
    exact ⟨_, by rw [he], z4, rfl, by unfold witL; rw [if_neg (by rw [he]; decide)]; exact isInts_nil _⟩
  case body =>
    rintro l2 k v A hk ⟨hl, ⟨h3, h4⟩, ⟨h5, h6⟩, hno⟩ hR hvA
    generalize hQ : roundEnd w.heap.size _ _ _ A = Q
    replace hQ := Lib.hid hQ
    replace hno := Lib.hid hno
    have hS := @Oper.semAt_some
    have hF : ∀ f, Fence.wide.fn f = True := fun _ => rfl
    have hD : Fence.wide.depth = none := rfl
    have hsA : b2 + 1 < A.heap.size := by have := hR.lt; omega
    obtain ⟨m1, m2, m3, _⟩ := hmem.out _ (nth_mem hk)
    have hpl : pane < ((nth (agr p) k).length : Int) := by rw [m2, hlen.out]; omega
    clear m1 m2 m3
    have hCl := Lib.hid (fun (y : Later A) => pcloneI (Later.now y.w) v (nth (agr p) k) (hvA.below y.h))
    have hdec : hasB pane o (nth (agr p) k) = (nth (nth (agr p) k) pane.toNat == o) := rfl
    obtain ⟨kp, rfl⟩ := Int.eq_ofNat_of_zero_le hp0
    have hkp : kp < (nth (agr p) k).length := by omega
    obtain ⟨av, cv, rfl, hlv, hI⟩ := hvA
    obtain ⟨bf, of_, rfl, hbf, cf⟩ := hI kp hkp
    clear hI
    have hbA : Below W1.heap.size W1 A := by obtain ⟨z, rfl⟩ := hl; exact z.h
    have z0 := Later.cells hbA q0 (Later.now A)
    have z1 := Later.cells hbA r0 (Later.now A)
    change A.cell? _ = _ at z0 z1
    replace hdec := Lib.hid hdec
    replace h3 := Later.cell (W := A) (by omega) h3
    replace h4 := Later.frozen (W := A) (by omega) h4
    replace h5 := Later.cell (W := A) hsA h5
    replace h6 := Later.frozen (W := A) hsA h6
    gi_wp2
    gi_region
    all_goals
      obtain ⟨y, hy⟩ : ∃ y : Later A, A.drew = y.w := ⟨⟨_, (Below.refl _ _).drew⟩, rfl⟩
      rw [hy]; clear hy
      cases hB : (nth (nth (agr p) k) kp == o)
      · gi_wp2
        rw [← hQ.out]
        obtain ⟨z, rfl⟩ := hl
        refine ⟨Above.below y.h, hR.up y, ⟨z.up y, rfl⟩, ⟨h3 y, h4 y⟩, ⟨h5 y, h6 y⟩, fun i hi => ?_⟩
        rcases Nat.lt_succ_iff_lt_or_eq.1 hi with h9 | rfl
        · exact hno.out i h9
        · rw [hdec.out]; exact hB
      · have hfind := Lib.hid (find_at hk (hdec.out.trans hB) hno.out)
        gi_wp2_with (gi_at_call 68; refine (CallsIn.inRound l2 (callsIn_wide.2 (hCl.out y))).mono ?_; rintro e w' ⟨v', rfl, y2, rfl, hown⟩; have g3 := h3 ⟨y2.w, below_then y.h y2⟩; have g4 := h4 ⟨y2.w, below_then y.h y2⟩; have g5 := h5 ⟨y2.w, below_then y.h y2⟩; have g6 := h6 ⟨y2.w, below_then y.h y2⟩; obtain ⟨A', c', rfl⟩ := owns_slice hown)
        rw [← hQ.out]
        obtain ⟨z, rfl⟩ := hl
        have hyz := below_then y.h y2
        have hszy : z.w.heap.size ≤ y.w.heap.size := y.h.size
        obtain ⟨t2, t3⟩ := two_set (Nat.ne_of_lt (Nat.lt_succ_self b2)) g3 g5 (.slice A' (nth (agr p) k).length c') (.int .i64 0)
        have hown2 := owns_two (u := .slice A' (nth (agr p) k).length c') (u' := .int .i64 0) hown (b2 := b2) (b3 := b2 + 1) (by omega) (by omega)
        refine ⟨((Above.below hyz).setCell (p := ⟨b2, 0, none⟩) (by show b2 < _; omega) _).setCell (p := ⟨b2 + 1, 0, none⟩) (by show b2 + 1 < _; omega) _, rfl, ?_, _, _, t2, t3, isInts_of_owns hown2 hlv, hfind.out⟩
        obtain ⟨z1, hz1⟩ := (z.up ⟨y2.w, hyz⟩).set (b := b2) hW1b (.slice A' (nth (agr p) k).length c')
        obtain ⟨z2, hz2⟩ := z1.set (b := b2 + 1) (by omega) (.int .i64 0)
        exact ⟨z2, by rw [← hz2, ← hz1]; rfl⟩
end Go.Proofs.Ytmpkbolabdmkkaa
