/- CONTRACT of places' Next. -/
import Derived.Test.YtmpkbolabdmkkaaZj
namespace Go.Proofs.Ytmpkbolabdmkkaa
open Go.RowKit

theorem cell_far {A : World} {b b' : Nat} (hne : b ≠ b') (v : Value) : (A.setCell ⟨b, 0, none⟩ v).cell? ⟨b', 0, none⟩ = A.cell? ⟨b', 0, none⟩ := World.cell?_setCell_other _ _ _ _ (fun e => hne (by cases e; rfl))

set_option maxRecDepth 100000 in
set_option maxHeartbeats 2000000 in
theorem pNext {W : World} (x : Later W) (v0 v1 v2 vf : Value) (p : Prob) (f : List Int) (hp : IsProb W v0 v1 v2 p) (hf : IsInts W vf f) :
    Calls Try.prog 48 #[.agg #[v0, v1, v2], vf] x.w (EndsIntsE W (nextL p f) (nextE p f)) := by
  refine (callsIn_wide (n := 0)).1 (callsIn_of_wp_marks (F := Fence.wide) (n := 0) Try.func48 rfl trivial ?_ rfl)
  refine (wpIn_wide (n := 0)).2 ?_
  simp only [Try.ntmps48, List.size_toArray, List.length_cons, List.length_nil, Nat.reduceAdd, Nat.reduceSub, Array.replicate_succ, Array.replicate_zero, List.push_toArray, List.append_toArray, List.nil_append, List.cons_append]
  go_upto_region 1 with (fail)
  obtain ⟨W1, W2, e2, hb1, hb2, ⟨hs1, hs2⟩, s1, p0, p1, p2, c2, c3⟩ := enterR x v0 v1 v2 (.slice none 0 0) (.int .i64 0) 26 22 29
  rw [e2]; clear e2
  have c2a := fun y => (c2 y).1
  have c2b := fun y => (c2 y).2
  have c3a := fun y => (c3 y).1
  have c3b := fun y => (c3 y).2
  clear c2 c3
  have P0 := p0
  have P1 := p1
  have P2 := p2
  replace s1 := Later.sizes hb2 s1
  replace p0 := Later.cells hb2 p0
  replace p1 := Later.cells hb2 p1
  replace p2 := Later.cells hb2 p2
  have HP1 := Lib.hid (hp.below hb1)
  have HP := Lib.hid (HP1.out.below hb2)
  have HF1 := Lib.hid (hf.below hb1)
  have HF := Lib.hid (HF1.out.below hb2)
  obtain ⟨ap, cp, rfl, lp, _⟩ := hp.panes.opened
  obtain ⟨ao, co, rfl, lo, _⟩ := hp.opts.opened
  obtain ⟨ar, cr, rfl, lr, _⟩ := hp.rules.opened
  obtain ⟨af, cf, rfl, lf, _⟩ := hf.opened
  have hb12 := hb1.trans (hb2.mono hb1.size)
  have hWx := x.h.size
  replace hs1 := Lib.hid hs1
  replace hs2 := Lib.hid hs2
  obtain ⟨b2, hB2⟩ : ∃ b2, x.w.heap.size + 1 = b2 := ⟨_, rfl⟩
  rw [hB2] at c2a c2b c3a c3b ⊢
  replace hB2 := Lib.hid hB2
  clear hp hf
  show Code.wp _ _ _ _ (Later.now W2).w
  by_cases h0 : wrongC p f = 0
  case neg =>
    have hb0 : (wrongC p f != 0) = true := by simp [h0]
    have hres : Hid (nextE p f = wrongC p f ∧ nextL p f = []) := Lib.hid ⟨by simp [nextE, h0], by simp [nextL, nextE, h0]⟩
    clear h0
    go_wp2_with (go_at_call 90; refine (pwrong _ _ _ _ _ p f HP.out HF.out).mono ?_; rintro e w' ⟨rfl, x1, rfl⟩)
    obtain ⟨t2, t3⟩ := two_set (Nat.ne_of_lt (Nat.lt_succ_self b2)) (c2a x1) (c3a x1) (.slice none 0 0) (.int .i64 (wrongC p f))
    refine leaves_none (results_cell2 4 5 rfl rfl rfl (loadVar_cell (.inl rfl) t2) (loadVar_cell (.inr rfl) t3)) ?_
    obtain ⟨z, hz⟩ := x1.down hb12
    rw [hz]
    obtain ⟨z1, hz1⟩ := z.set (b := b2) (by have := hB2.out; omega) (.slice none 0 0)
    obtain ⟨z2, hz2⟩ := z1.set (b := b2 + 1) (by have := hB2.out; omega) (.int .i64 (wrongC p f))
    rw [hz1, hz2]
    exact ⟨_, by rw [hres.out.1], z2, rfl, by rw [hres.out.2]; exact isInts_nil _⟩
  have hb0 : (wrongC p f != 0) = false := by simp [h0]
  obtain ⟨hv, hfl⟩ := wrongC_iff.1 h0
  by_cases ht : 65536 < total p
  · have ha2 : askE p true = 2 := by simp [askE, hv, ht]
    have hres : Hid (nextE p f = 2 ∧ nextL p f = []) := Lib.hid ⟨by simp [nextE, h0, ht], by simp [nextL, nextE, h0, ht]⟩
    clear h0 ht
    go_wp2_with (first | (go_at_call 90; refine (pwrong _ _ _ _ _ p f HP.out HF.out).mono ?_; rintro e w' ⟨rfl, x1, rfl⟩) | (go_at_call 65; refine (pasked x1 _ _ _ p true HP.out).mono ?_; rintro e w' ⟨rfl, x1, rfl⟩))
    obtain ⟨t2, t3⟩ := two_set (Nat.ne_of_lt (Nat.lt_succ_self b2)) (c2a x1) (c3a x1) (.slice none 0 0) (.int .i64 2)
    refine leaves_none (results_cell2 4 5 rfl rfl rfl (loadVar_cell (.inl rfl) t2) (loadVar_cell (.inr rfl) t3)) ?_
    obtain ⟨z, hz⟩ := x1.down hb12
    rw [hz]
    obtain ⟨z1, hz1⟩ := z.set (b := b2) (by have := hB2.out; omega) (.slice none 0 0)
    obtain ⟨z2, hz2⟩ := z1.set (b := b2 + 1) (by have := hB2.out; omega) (.int .i64 2)
    rw [hz1, hz2]
    exact ⟨_, by rw [hres.out.1], z2, rfl, by rw [hres.out.2]; exact isInts_nil _⟩
  have ha2 : askE p true = 0 := by simp [askE, hv, ht]
  have hNE : Hid (nextE p f = if ((agr p).find? (lessB f)).isSome then 0 else 3) := Lib.hid (by simp [nextE, h0, ht])
  obtain ⟨r, hr, hfr⟩ := fillB_fill hv hfl
  replace hfr := Lib.hid hfr
  clear h0 ht hfl
  go_wp2_with (first | (go_at_call 90; refine (pwrong _ _ _ _ _ p f HP.out HF.out).mono ?_; rintro e w' ⟨rfl, x1, rfl⟩) | (go_at_call 65; refine (pasked x1 _ _ _ p true HP.out).mono ?_; rintro e w' ⟨rfl, x1, rfl⟩) | (go_at_call 110; obtain ⟨W3, hW3⟩ : ∃ W3, x1.w.alloc (.cells #[.bool true] 4) = W3 := ⟨_, rfl⟩; have hb23 : Below W2.heap.size W2 W3 := hW3 ▸ x1.h.alloc x1.h.size _; rw [hW3]; refine (pfillings (Later.now W3) _ _ _ _ f (HF.out.below hb23)).mono ?_; rintro e w' ⟨bq, bf, rfl, y, rfl, hq1, hq2, hq3, hq4, hq5⟩))
  have hsx : b2 + 1 < x1.w.heap.size := by have h1 := x1.h.size; have h2 := hs2.out; have h3 := hB2.out; omega
  have hW1b : W1.heap.size ≤ b2 := by have h2 := hs1.out; have h3 := hB2.out; omega
  have hs3 : W3.heap.size = x1.w.heap.size + 1 := by rw [← hW3]; simp
  have d8a : W3.cell? ⟨x1.w.heap.size, 0, none⟩ = some (.bool true) := by rw [← hW3]; simp
  have d8b : W3.frozen? ⟨x1.w.heap.size, 0, none⟩ = false := by rw [← hW3]; simp
  obtain ⟨b8, hb8⟩ : ∃ b8, x1.w.heap.size = b8 := ⟨_, rfl⟩
  rw [hb8] at hsx hs3 d8a d8b ⊢
  obtain ⟨xx, hxx⟩ : ∃ xx : Later W2, y.w = xx.w := ⟨⟨y.w, below_then hb23 y⟩, rfl⟩
  have hby : b8 < y.w.heap.size := by have := y.h.size; omega
  have d2a := c2a xx
  have d2b := c2b xx
  have d3a := c3a xx
  have d3b := c3b xx
  have e8a : y.w.cell? ⟨b8, 0, none⟩ = some (.bool true) := (y.h.cell (p := ⟨b8, 0, none⟩) (by show b8 < _; omega)).trans d8a
  have e8b : y.w.frozen? ⟨b8, 0, none⟩ = false := (y.h.frozen (p := ⟨b8, 0, none⟩) (by show b8 < _; omega)).trans d8b
  rw [← hxx] at d2a d2b d3a d3b
  have hly : ∃ z : Later W1, y.w = z.w := by obtain ⟨z, hz⟩ := xx.down hb2; exact ⟨z, hxx.trans hz⟩
  have hq6 : RdP W1 bq (.slice ap p.panes.length cp) (.slice ao p.opts.length co) (.slice ar p.rules.length cr) y.w := ⟨hly, hq3.lt, hq3.c0, hq3.c1, hq3.c2⟩
  have hIf : IsInts y.w (.slice af f.length cf) (fill p r) := by rw [← hfr.out]; exact (HF.out.below hb23).below y.h
  have hbq : b8 < bq := by omega
  have hqlt := hq3.lt
  obtain ⟨w, hw⟩ : ∃ w, y.w = w := ⟨_, rfl⟩
  rw [hw] at hby d2a d2b d3a d3b e8a e8b hly hq6 hq4 hq5 hIf hqlt ⊢
  clear hq3 hw hxx xx y hq1 hq2 hs3 d8a d8b hb8 hW3 hb23 c2a c2b c3a c3b x1
  refine (wpIn_wide (n := 0)).1 ?_
  refine' wpIn_rangeL (gf := 146) rfl (enters_of Try.func146 (by kernel_rfl) rfl) rfl (RdP W1 bq (.slice ap p.panes.length cp) (.slice ao p.opts.length co) (.slice ar p.rules.length cr)) ((fills p).drop r) ?iter
    (fun k A => (∃ z : Later W1, A = z.w) ∧ (A.cell? ⟨b2, 0, none⟩ = some (.slice none 0 0) ∧ A.frozen? ⟨b2, 0, none⟩ = false) ∧ (A.cell? ⟨b2 + 1, 0, none⟩ = some (.int .i64 0) ∧ A.frozen? ⟨b2 + 1, 0, none⟩ = false) ∧ (A.cell? ⟨b8, 0, none⟩ = some (.bool (decide (k = 0))) ∧ A.frozen? ⟨b8, 0, none⟩ = false) ∧ ∀ i, r < i → i < r + k → agreesB p (fill p i) = false)
    (fun c A => c = .ret ∧ (∃ z : Later W1, A = z.w) ∧ ∃ v L, A.cell? ⟨b2, 0, none⟩ = some v ∧ A.cell? ⟨b2 + 1, 0, none⟩ = some (.int .i64 0) ∧ IsInts A v L ∧ (agr p).find? (lessB f) = some L) ?hI ?hIx ?hRd ⟨hly, ⟨d2a, d2b⟩, ⟨d3a, d3b⟩, ⟨e8a, e8b⟩, fun i h1 h2 => by omega⟩ hq6 _ ?assign ?body ?done ?stop
  case assign =>
    intro l v W K hK
    have hS := @Oper.semAt_some
    gi_wp2
    exact hK
  case iter => exact fun W2 hb2 hr2 => iterFills bq bf _ _ _ _ p r HP1.out hv hr hr2 (hIf.below hb2) (Nat.lt_of_lt_of_le hq4 hb2.size) ((hb2.cell (p := ⟨bf, 0, none⟩) hq4).trans hq5)
  case hI => exact fun k A B ⟨h2, ⟨h3, h4⟩, ⟨h5, h6⟩, ⟨h7, h8⟩, h9⟩ he => ⟨he.later (by omega) h2, ⟨(he.cell (p := ⟨b2, 0, none⟩) (by show b2 < _; omega)).trans h3, (he.frozen (p := ⟨b2, 0, none⟩) (by show b2 < _; omega)).trans h4⟩, ⟨(he.cell (p := ⟨b2 + 1, 0, none⟩) (by show b2 + 1 < _; omega)).trans h5, (he.frozen (p := ⟨b2 + 1, 0, none⟩) (by show b2 + 1 < _; omega)).trans h6⟩, ⟨(he.cell (p := ⟨b8, 0, none⟩) hby).trans h7, (he.frozen (p := ⟨b8, 0, none⟩) hby).trans h8⟩, h9⟩
  case hIx => exact fun c A B ⟨h1, h2, v, L, h3, h4, h5, h6⟩ he => ⟨h1, he.toEqb.later (by omega) h2, v, L, he.cell h3, he.cell h4, h5.calm he, h6⟩
  case hRd => exact fun A B h he => h.eqb he (by omega) hqlt
  case stop =>
    rintro D c A hD ⟨rfl, hl, v, L, h3, h4, h5, h6⟩ hdf
    refine (wpIn_wide (n := 0)).2 ?_
    go_wp2
    have hcm : Calm W1.heap.size A (A.putObj D (.deferred none)) := Calm.putObj hdf rfl (by omega) _
    refine leaves_mark hdf (results_cell2 4 5 rfl rfl rfl (loadVar_cell (.inl rfl) (hcm.cell h3)) (loadVar_cell (.inr rfl) (hcm.cell h4))) ?_
    obtain ⟨z, hz⟩ := hcm.toEqb.later (Nat.le_refl _) hl
    have h7 := h5.calm hcm
    obtain ⟨z1, hz1⟩ := z.down hb1
    rw [hz, hz1] at h7 ⊢
    have he : nextE p f = 0 := by rw [hNE.out, h6]; rfl
    exact ⟨_, by rw [he], z1, rfl, by unfold nextL; rw [if_pos he, h6]; exact h7⟩
  case done =>
    rintro D A hD ⟨⟨z, rfl⟩, ⟨h3, h4⟩, ⟨h5, h6⟩, _, hno⟩ hdf
    rw [List.length_drop, fills_len] at hno
    replace hno := Lib.hid hno
    go_wp2
    obtain ⟨t2, t3⟩ := two_set (Nat.ne_of_lt (Nat.lt_succ_self b2)) h3 h5 (.slice none 0 0) (.int .i64 3)
    have hdf2 := (heap_two (A := z.w) (b2 := b2) (b3 := b2 + 1) (D := D) (v := .slice none 0 0) (v' := .int .i64 3) (by omega) (by omega)).trans hdf
    have hcm : Calm W1.heap.size _ _ := Calm.putObj hdf2 rfl (by omega) (.deferred none)
    refine leaves_mark hdf2 (results_cell2 4 5 rfl rfl rfl (loadVar_cell (.inl rfl) (hcm.cell t2)) (loadVar_cell (.inr rfl) (hcm.cell t3))) ?_
    obtain ⟨z1, hz1⟩ := z.set (b := b2) hW1b (.slice none 0 0)
    obtain ⟨z2, hz2⟩ := z1.set (b := b2 + 1) (by omega) (.int .i64 3)
    rw [hz1, hz2] at hcm ⊢
    obtain ⟨z3, hz3⟩ := hcm.toEqb.later (Nat.le_refl _) ⟨z2, rfl⟩
    obtain ⟨z4, hz4⟩ := z3.down hb1
    rw [hz3, hz4]
    have hn := next_none hv hr (fun i h1 h2 => hno.out i h1 (by omega))
    rw [← hfr.out] at hn
    have he : nextE p f = 3 := by rw [hNE.out, hn]; rfl
    exact ⟨_, by rw [he], z4, rfl, by unfold nextL; rw [if_neg (by rw [he]; decide)]; exact isInts_nil _⟩
  case body =>
    rintro l2 k v A hk ⟨hl, ⟨h3, h4⟩, ⟨h5, h6⟩, ⟨h7, h8⟩, hno⟩ hR hvA
    generalize hQ : roundEnd w.heap.size _ _ _ A = Q
    replace hQ := Lib.hid hQ
    rw [List.length_drop, fills_len] at hk
    rw [nth_drop, nth_fills (by omega)] at hvA
    have hS := @Oper.semAt_some
    have hF : ∀ f, Fence.wide.fn f = True := fun _ => rfl
    have hD : Fence.wide.depth = none := rfl
    have hsA : b8 < A.heap.size := by have := hR.lt; omega
    have hbA : Below W1.heap.size W1 A := by obtain ⟨z, rfl⟩ := hl; exact z.h
    have a0 := Later.cells hbA P0
    have a1 := Later.cells hbA P1
    have a2 := Later.cells hbA P2
    replace h3 := Later.cell (W := A) (by omega) h3
    replace h4 := Later.frozen (W := A) (by omega) h4
    replace h5 := Later.cell (W := A) (by omega) h5
    replace h6 := Later.frozen (W := A) (by omega) h6
    replace h7 := Later.cell (W := A) hsA h7
    replace h8 := Later.frozen (W := A) hsA h8
    replace hno := Lib.hid hno
    have fin : Hid (∀ (y : Later A) (a : Act), (∀ i, r < i → i < r + (k + 1) → agreesB p (fill p i) = false) → Q .normal a (y.w.setCell ⟨b8, 0, none⟩ (.bool false))) := Lib.hid (fun y a hno' => by
      rw [← hQ.out]
      obtain ⟨z, rfl⟩ := hl
      refine ⟨(Above.below y.h).setCell (p := ⟨b8, 0, none⟩) (by show b8 < _; omega) _, (hR.up y).setCell (by omega) (by omega) _, ?_, ⟨(cell_far (by omega) _).trans (h3 y), (World.frozen?_setCell _ _ _ _).trans (h4 y)⟩, ⟨(cell_far (by omega) _).trans (h5 y), (World.frozen?_setCell _ _ _ _).trans (h6 y)⟩, ⟨?_, (World.frozen?_setCell _ _ _ _).trans (h8 y)⟩, hno'⟩
      · obtain ⟨z1, hz1⟩ := (z.up y).set (b := b8) (by omega) (.bool false)
        exact ⟨z1, hz1⟩
      · rw [World.cell?_setCell_same _ _ _ (h7 y)]; simp)
    rcases Nat.eq_zero_or_pos k with rfl | hpos
    · replace h7 : ∀ y : Later A, y.w.cell? ⟨b8, 0, none⟩ = some (.bool true) := h7
      show Code.wpIn _ _ _ _ _ _ (Later.now A).w
      gi_wp2
      exact fin.out (Later.now A) _ (fun i h1 h2 => by omega)
    · replace h7 : ∀ y : Later A, y.w.cell? ⟨b8, 0, none⟩ = some (.bool false) := fun y => by rw [h7 y]; simp; omega
      have hC := Lib.hid (fun y : Later A => pagrees y _ _ _ _ p (fill p (r + k)) (HP1.out.below hbA) hvA hv (fill_B hv (r + k)))
      have hCl := Lib.hid (fun y : Later A => pcloneI (Later.now y.w) v _ (hvA.below y.h))
      have hvo := Lib.hid hvA
      obtain ⟨av, cv, rfl, hlv, _⟩ := hvA.opened
      clear hvA
      show Code.wpIn _ _ _ _ _ _ (Later.now A).w
      cases hA : agreesB p (fill p (r + k))
      · gi_wp2_with (gi_at_call 101; refine (CallsIn.inRound l2 (callsIn_wide.2 (hC.out _))).mono ?_; rintro e w' ⟨rfl, y, rfl⟩)
        all_goals
          refine fin.out y _ (fun i h1 h2 => ?_)
          rcases Nat.lt_or_ge i (r + k) with h9 | h9
          · exact hno.out i h1 h9
          · obtain rfl : i = r + k := by omega
            exact hA
      · have hfind := Lib.hid (next_find hv hr (by omega) (by omega) hA (fun i h1 h2 => hno.out i h1 h2))
        gi_wp2_with (first | (gi_at_call 101; refine (CallsIn.inRound l2 (callsIn_wide.2 (hC.out _))).mono ?_; rintro e w' ⟨rfl, y, rfl⟩) | (gi_at_call 68; refine (CallsIn.inRound l2 (callsIn_wide.2 (hCl.out y))).mono ?_; rintro e w' ⟨v', rfl, y2, rfl, hown⟩; have g3 := h3 ⟨y2.w, below_then y.h y2⟩; have g4 := h4 ⟨y2.w, below_then y.h y2⟩; have g5 := h5 ⟨y2.w, below_then y.h y2⟩; have g6 := h6 ⟨y2.w, below_then y.h y2⟩; obtain ⟨A', c', rfl⟩ := owns_slice hown))
        rw [← hQ.out]
        obtain ⟨z, rfl⟩ := hl
        have hyz := below_then y.h y2
        have hszy : z.w.heap.size ≤ y.w.heap.size := y.h.size
        obtain ⟨t2, t3⟩ := two_set (Nat.ne_of_lt (Nat.lt_succ_self b2)) g3 g5 (.slice A' (fill p (r + k)).length c') (.int .i64 0)
        have hown2 := owns_two (u := .slice A' (fill p (r + k)).length c') (u' := .int .i64 0) hown (b2 := b2) (b3 := b2 + 1) (by omega) (by omega)
        refine ⟨((Above.below hyz).setCell (p := ⟨b2, 0, none⟩) (by show b2 < _; omega) _).setCell (p := ⟨b2 + 1, 0, none⟩) (by show b2 + 1 < _; omega) _, rfl, ?_, _, _, t2, t3, isInts_of_owns hown2 hlv, by rw [hfr.out]; exact hfind.out⟩
        obtain ⟨z1, hz1⟩ := (z.up ⟨y2.w, hyz⟩).set (b := b2) hW1b (.slice A' (fill p (r + k)).length c')
        obtain ⟨z2, hz2⟩ := z1.set (b := b2 + 1) (by omega) (.int .i64 0)
        exact ⟨z2, by rw [← hz2, ← hz1]; rfl⟩
end Go.Proofs.Ytmpkbolabdmkkaa
