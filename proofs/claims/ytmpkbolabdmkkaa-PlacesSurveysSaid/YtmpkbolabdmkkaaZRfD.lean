/- CONTRACT of the reference's proves. -/
import Derived.Test.YtmpkbolabdmkkaaZRfL
namespace Go.Proofs.Ytmpkbolabdmkkaa
open Go.RowKit

set_option maxRecDepth 100000 in
set_option maxHeartbeats 8000000 in
theorem rproves_core {W : World} (p : Prob) (v0 v1 v2 vt : Value) (vs : List Value) (B : Nat) (n : Nd) (hp : IsProb W v0 v1 v2 p) (hval : validP p = true) (hkid : ∀ m, m ∈ n.kids → PvNode W p B v0 v1 v2 vt vs m) : PvNode W p B v0 v1 v2 vt vs n := by
  intro A k vf t c hT hk hf ht1 ht2 hcl hco hN
  obtain ⟨kd, ix, ks⟩ := n
  by_cases hk1 : kd = 1
  case neg => exact rproves_leaf p _ _ _ _ _ _ vs t B kd ix ks c hk1 hp hval hT hk hf ht1 ht2 hcl hco
  subst hk1
  obtain ⟨ak, ck, rfl, lk, hkx⟩ := hk.opened
  change ks.length ≤ _ at lk
  obtain ⟨af, cf, rfl, lf, _⟩ := (hf.cov (cov_all _ _)).opened
  obtain ⟨ap, cp, rfl, lp, _⟩ := hp.panes.opened
  obtain ⟨ao, co, rfl, lo, _⟩ := hp.opts.opened
  obtain ⟨ar, cr, rfl, lr, _⟩ := hp.rules.opened
  obtain ⟨at_, ct, rfl⟩ : ∃ a c, vt = .slice a p.opts.length c := by
    obtain ⟨y, _, ht⟩ := hT.tab
    obtain ⟨a, c, h⟩ := ht.slice
    rw [ht1] at h
    exact ⟨a, c, h⟩
  show Calls Try.prog 123 #[.agg #[.slice ap p.panes.length cp, .slice ao p.opts.length co, .slice ar p.rules.length cr], .agg #[.int .i64 1, .int .i64 ix, .slice ak ks.length ck], .slice af c.length cf, .slice at_ p.opts.length ct] (Later.now A).w _
  generalize Later.now A = x
  go_enter Try.func123, Try.ntmps123
  go_upto_region 1 with (fail)
  obtain ⟨A1, x1, e1, hb1, s1, p0, p1, p2⟩ := enter3 x (.slice ap p.panes.length cp) (.slice ao p.opts.length co) (.slice ar p.rules.length cr) 26
  rw [show x.w.heap.size + 1 = x1.w.heap.size by rw [← e1]; simp, e1]
  clear e1
  obtain ⟨b4, hB4⟩ : ∃ b, x.w.heap.size = b := ⟨_, rfl⟩
  have hb4 : B ≤ b4 := by have := hT.hB; have := x.h.size; omega
  rw [hB4] at p0 p1 p2 s1 ⊢
  clear hB4
  obtain ⟨A2, x2, e2, hb2, s2, q0, q1, q2⟩ := enter3 x1 (.int .i64 1) (.int .i64 ix) (.slice ak ks.length ck) 64
  rw [e2]
  clear e2
  obtain ⟨b5, hB5⟩ : ∃ b, x1.w.heap.size = b := ⟨_, rfl⟩
  have hb5 : B ≤ b5 := by have := hT.hB; have := x1.h.size; have := hb1.size; omega
  rw [hB5] at q0 q1 q2 s2 ⊢
  clear hB5 x1 x
  replace p0 := Later.cells hb2 p0
  replace p1 := Later.cells hb2 p1
  replace p2 := Later.cells hb2 p2
  replace s1 := Later.sizes hb2 s1
  have hbA : Below A.heap.size A A2 := hb1.trans (hb2.mono hb1.size)
  have hT2 := hT.below hbA
  have hf2 := (Kep.below (B := B) hbA).ints hf
  have hLw := hT2.later
  have HP := Lib.hid (hp.below hLw)
  have HF := Lib.hid (hf2.cov (cov_all _ _))
  have hK2 := Lib.hid (Kep.below (B := B) hbA)
  have hno : Hid (∀ y : Later A2, okN p (.mk 1 ix ks) c = false → PvEnd W A B (.slice at_ p.opts.length ct) vs t p (.mk 1 ix ks) c (.returned (.tuple #[.int .i64 0, .bool false])) y.w) := Lib.hid (fun y h => .inr ⟨h, rfl, ⟨⟨y.w, hLw.trans (y.h.mono hLw.size)⟩, rfl⟩, hK2.out.trans (Kep.below y.h)⟩)
  replace hN := Lib.hid hN
  clear hf hT hk hb1 hb2 hbA hp
  cases ha : (ix != (c.length : Int))
  case true =>
    have hn : Hid (okN p (.mk 1 ix ks) c = false) := Lib.hid (by rw [okN_branch, decide_eq_false (fun h => by simp [h.1] at ha)]; rfl)
    go_wp2
    refine wp_region_later x2 (by kernel_rfl) (by kernel_rfl) ?_
    repeat (go_big_quiet_step (fail))
    refine wpQuiet_nil ?_
    rintro _ ⟨x2, rfl⟩
    go_wp2
    go_ret2
    exact hno.out _ hn.out
  cases hb : decide (p.panes.length ≤ c.length)
  case true =>
    have hn : Hid (okN p (.mk 1 ix ks) c = false) := Lib.hid (by rw [okN_branch, decide_eq_false (fun h => by have := h.2.1; simp at hb; omega)]; rfl)
    go_wp2
    refine wp_region_later x2 (by kernel_rfl) (by kernel_rfl) ?_
    repeat (go_big_quiet_step (fail))
    refine wpQuiet_nil ?_
    rintro _ ⟨x2, rfl⟩
    go_wp2
    go_ret2
    exact hno.out _ hn.out
  have hcp : c.length < p.panes.length := by have := of_decide_eq_false hb; omega
  have hcp2 : c.length < p.opts.length := by have := valid_len hval; omega
  obtain ⟨_, _, hqq, _, hopts⟩ := HP.out.opts.opened
  cases hqq
  obtain ⟨bo, oo, rfl, hbo, uo, co0, hO⟩ := hopts.out c.length hcp2
  obtain ⟨av, cv, rfl, lv, _⟩ := hO.opened
  clear hO hopts
  replace hcp := Lib.hid hcp
  cases hc : ((ks.length : Int) != ((nth p.opts c.length).length : Int))
  case true =>
    have hn : Hid (okN p (.mk 1 ix ks) c = false) := Lib.hid (by rw [okN_branch, decide_eq_false (fun h => by simp [h.2.2] at hc)]; rfl)
    go_wp2
    refine wp_region_later x2 (by kernel_rfl) (by kernel_rfl) ?_
    repeat (go_big_quiet_step (fail))
    refine wpQuiet_nil ?_
    rintro _ ⟨x2, rfl⟩
    go_wp2
    go_ret2
    exact hno.out _ hn.out
  have hkl : ks.length = (nth p.opts c.length).length := by simp at hc; omega
  have hT : Hid (okN p (.mk 1 ix ks) c = okL p ks c 0) := Lib.hid (by rw [okN_branch, decide_eq_true ⟨by simpa using ha, hcp.out, hkl⟩, Bool.true_and])
  have hk300 : ks.length ≤ 300 := by have := (valid_opts hval hcp2).2; omega
  have hc64 : c.length ≤ 64 := by have := valid_pane64 hval; have := hcp.out; omega
  go_wp2
  refine wp_region_later x2 (by kernel_rfl) (by kernel_rfl) ?_
  repeat (go_big_quiet_step (fail))
  refine wpQuiet_nil ?_
  rintro _ ⟨x2, rfl⟩
  replace hkl := Lib.hid hkl
  clear ha hb hc
  have hT3 := hT2.below x2.h
  have hK3 := Kep.below (B := B) x2.h
  go_wp2
  go_loopw [10, 11] (fun sv iv wr => ∃ j : Nat, j ≤ ks.length ∧ iv = .int .i64 j ∧ sv = .int .i64 ((agTo ks c j).length : Nat) ∧ Kep B A2 wr ∧ PvAt W wr B (.slice at_ p.opts.length ct) vs (markAll t (agTo ks c j)) ∧ ∀ i, i < j → okN p (nth ks i) (c ++ [((i : Nat) : Int)]) = true) (fun _ iv _ => ks.length - (intOf iv).toNat)
  case atStart => exact ⟨0, Nat.zero_le _, rfl, rfl, hK3, hT3, by omega⟩
  case round =>
    clear hT3 hK3 x2
    obtain ⟨j, hj, rfl, rfl, hkp, hpv, hoks⟩ := hrel
    replace hoks := Lib.hid hoks
    have hLw2 := hpv.later
    have w0 := hkp.cell hb4 (p0 (Later.now A2))
    have w1 := hkp.cell hb4 (p1 (Later.now A2))
    have w2 := hkp.cell hb4 (p2 (Later.now A2))
    have w3 := hkp.cell hb5 (q0 (Later.now A2))
    have w4 := hkp.cell hb5 (q1 (Later.now A2))
    have w5 := hkp.cell hb5 (q2 (Later.now A2))
    have wz4 := block_lt_of_cell w0
    have wz5 := block_lt_of_cell w3
    by_cases hlt : j < ks.length
    · obtain ⟨bk, ok, rfl, hbk, u, r0, r1, r2, hnd⟩ := hkx.out j hlt
      change ∀ x : Later W, x.w.cell? _ = some (.int .i64 (nth ks j).kind) at r0
      change ∀ x : Later W, x.w.cell? _ = some (.int .i64 (nth ks j).index) at r1
      change IsNd W u (nth ks j) at hnd
      have hND := Lib.hid hnd
      obtain ⟨au, cu, rfl, lu, _⟩ := hnd.opened
      clear hnd
      have r0' := r0 ⟨wr, hLw2⟩
      have r1' := r1 ⟨wr, hLw2⟩
      have r2' := r2 ⟨wr, hLw2⟩
      have hbk' := hbk ⟨wr, hLw2⟩
      change wr.cell? _ = _ at r0' r1' r2'
      change _ < wr.heap.size at hbk'
      have hfw := hkp.ints hf2
      have hFw := Lib.hid (hfw.cov (cov_all _ _))
      have hag := agTo_len ks c j
      have hag2 := agN_len (nth ks j) (c ++ [(j : Int)])
      have hszk : szTo ks (j + 1) = szTo ks j + szN (nth ks j) := rfl
      have hmono := szTo_mono ks (j + 1) ks.length (by omega)
      have hall := szTo_all ks
      have hN7 := hN.out
      have hszn : szN (.mk 1 ix ks) = 1 + szL ks := by simp [szN]
      have hszk2 : szN (nth ks j) ≤ 200000 := by omega
      have hsum : (agTo ks c j).length + (agN (nth ks j) (c ++ [(j : Int)])).length ≤ 200000 := by omega
      have hwB : B ≤ wr.heap.size := hpv.hB
      have hsh := markAll_shape t (agTo ks c j)
      have hIH0 := Lib.hid (fun (y : Later wr) (vf : Value) (hi : IsInts (wout (fun q => decide (q < B)) y.w) vf (c ++ [(j : Int)])) => hkid (nth ks j) (nth_mem hlt) y.w _ vf (markAll t (agTo ks c j)) (c ++ [(j : Int)]) (hpv.below y.h) hND.out hi (hsh.1.trans ht1) (fun i => (hsh.2 i).trans (ht2 i)) (by simp; omega) (fun i hi => by
        rw [List.length_append, List.length_singleton] at hi
        rcases Nat.lt_succ_iff_lt_or_eq.1 hi with h3 | rfl
        · rw [nth_append_left h3]; exact hco i h3
        · rw [nth_snoc]; have := hkl.out; omega) hszk2)
      clear hag hag2 hszk hmono hall hN7 hszn hszk2
      obtain ⟨kN, hkN⟩ : ∃ q, (nth ks j).kind = q := ⟨_, rfl⟩
      obtain ⟨kI, hkI⟩ : ∃ q, (nth ks j).index = q := ⟨_, rfl⟩
      rw [hkN] at r0' r0 hIH0
      rw [hkI] at r1' r1 hIH0
      clear hkN hkI
      replace hsh := Lib.hid hsh
      replace hpv := Lib.hid hpv
      replace hkp := Lib.hid hkp
      replace hfw := Lib.hid hfw
      replace hsum := Lib.hid hsum
      have hSK : Hid (∀ w' : World, Kep B wr w' → Below W.heap.size W w' → (w'.cell? ⟨b4, 0, none⟩ = some (.slice ap p.panes.length cp) ∧ w'.cell? ⟨b4, 1, none⟩ = some (.slice (some ⟨bo, oo, none⟩) p.opts.length co) ∧ w'.cell? ⟨b4, 2, none⟩ = some (.slice ar p.rules.length cr) ∧ w'.cell? ⟨b5, 2, none⟩ = some (.slice (some ⟨bk, ok, none⟩) ks.length ck) ∧ w'.cell? ⟨bk, ok + j * 3, none⟩ = some (.int .i64 kN) ∧ w'.cell? ⟨bk, ok + j * 3 + 1, none⟩ = some (.int .i64 kI) ∧ w'.cell? ⟨bk, ok + j * 3 + 2, none⟩ = some (.slice au (nth ks j).kids.length cu))) := Lib.hid (fun w' h1 h2 => ⟨h1.cell hb4 w0, h1.cell hb4 w1, h1.cell hb4 w2, h1.cell hb5 w5, r0 ⟨w', h2⟩, r1 ⟨w', h2⟩, r2 ⟨w', h2⟩⟩)
      have hSKb := Lib.hid (fun (w' : World) (h : Below wr.heap.size wr w') => hSK.out w' (Kep.below h) (hLw2.trans (h.mono hLw2.size)))
      go_upto_region 8 with (fail)
      cases hK : okN p (nth ks j) (c ++ [(j : Int)])
      · have hn : Hid (okN p (.mk 1 ix ks) c = false) := Lib.hid (by
          rw [hT.out]
          cases hall2 : okL p ks c 0
          · rfl
          · have := (okL_iff ks 0).1 hall2 j hlt
            rw [Nat.zero_add, hK] at this; cases this)
        have hIH := Lib.hid (fun (y : Later wr) (vf : Value) (hi : IsInts (wout (fun q => decide (q < B)) y.w) vf (c ++ [(j : Int)])) => (hIH0.out y vf hi).mono (R' := fun e w' => e = .returned (.tuple #[.int .i64 0, .bool false]) ∧ (∃ y : Later W, w' = y.w) ∧ Kep B y.w w') (fun e w' h => h.elim (fun h => by rw [hK] at h; cases h.1) (fun h => h.2)))
        go_region_held3 (fun w' => w'.cell? ⟨b4, 0, none⟩ = some (.slice ap p.panes.length cp) ∧ w'.cell? ⟨b4, 1, none⟩ = some (.slice (some ⟨bo, oo, none⟩) p.opts.length co) ∧ w'.cell? ⟨b4, 2, none⟩ = some (.slice ar p.rules.length cr) ∧ w'.cell? ⟨b5, 2, none⟩ = some (.slice (some ⟨bk, ok, none⟩) ks.length ck) ∧ w'.cell? ⟨bk, ok + j * 3, none⟩ = some (.int .i64 kN) ∧ w'.cell? ⟨bk, ok + j * 3 + 1, none⟩ = some (.int .i64 kI) ∧ w'.cell? ⟨bk, ok + j * 3 + 2, none⟩ = some (.slice au (nth ks j).kids.length cu)) (first | exact hS7 | (refine hSKb.out _ ?_; first | exact Below.drew (Below.refl _ _) | exact (below_alloc1 _ _).drew | exact ((below_alloc1 _ _).alloc (by simp) _).drew | exact Later.h _ | exact (Later.h _).alloc (Later.h _).size _)) (first | (have hI6 := (ints_fresh ho2 (by omega)).cov (cov_fresh (P := fun q => decide (q < B)) fun q hq => by simp; omega); clear ho2 ho1; go_simp; go_at_call 123; refine (hIH.out y2 _ hI6).mono ?_; rintro e w7 ⟨rfl, hl7, hq7⟩; have hS7 := hSK.out _ ((Kep.below y2.h).trans hq7) (by obtain ⟨z, rfl⟩ := hl7; exact z.h); replace hl7 := Lib.hid hl7; replace hq7 := Lib.hid (hK2.out.trans ((hkp.out.trans (Kep.below y2.h)).trans hq7)); clear hI6) | (have hx := hk1; clear hx; refine step_app2 wr (by first | exact Later.h _ | exact (Later.h _).alloc (Later.h _).size _ | fail) rfl (.tmp 62) (.tmp 64) rfl A5 c5 c (by first | exact ho1 | exact owns_later ho1 (below_alloc1 _ _) | fail) y1.w.heap.size j (by first | exact World.cell?_alloc_at _ _ _ 0 rfl | exact hk1.cell (by omega) (cell_b1a _ _ _) | exact hk1.cell (by omega) (cell_b1b _ _) | fail) (by omega) rfl rfl ?_; intro A6 c6 y2 ho2 hk2) | (have hx := hk1; clear hx; refine step_app2 wr (by first | exact Later.h _ | exact (Later.h _).alloc (Later.h _).size _ | fail) rfl (.tmp 62) (.tmp 64) rfl A5 c5 c (by first | exact ho1 | exact owns_later ho1 (below_alloc1 _ _) | fail) (wr.heap.size + 1) j (by first | exact World.cell?_alloc_at _ _ _ 0 rfl | exact hk1.cell (by omega) (cell_b1a _ _ _) | exact hk1.cell (by omega) (cell_b1b _ _) | fail) (by omega) rfl rfl ?_; intro A6 c6 y2 ho2 hk2) | (have hx := hk1; clear hx; refine step_app2 wr (by first | exact Later.h _ | exact (Later.h _).alloc (Later.h _).size _ | fail) rfl (.tmp 62) (.tmp 64) rfl A5 c5 c (by first | exact ho1 | exact owns_later ho1 (below_alloc1 _ _) | fail) wr.heap.size j (by first | exact World.cell?_alloc_at _ _ _ 0 rfl | exact hk1.cell (by omega) (cell_b1a _ _ _) | exact hk1.cell (by omega) (cell_b1b _ _) | fail) (by omega) rfl rfl ?_; intro A6 c6 y2 ho2 hk2) | (refine step_app1 wr (by first | exact (below_alloc1 _ _).drew | exact ((below_alloc1 _ _).alloc (by simp) _).drew | fail) rfl (.tmp 60) (.tmp 61) rfl wr.heap.size (by first | exact (own_lit0 _ _ _ (by simp) (by omega)).drew | exact (owns_later (own_lit0 _ _ _ (by simp) (by omega)) (below_alloc1 _ _)).drew | fail) af c cf hFw.out (by omega) rfl rfl ?_; intro A5 c5 y1 ho1 hk1 hn1) | (refine step_app1 wr (by first | exact (below_alloc1 _ _).drew | exact ((below_alloc1 _ _).alloc (by simp) _).drew | fail) rfl (.tmp 60) (.tmp 61) rfl (wr.heap.size + 1) (by first | exact (own_lit0 _ _ _ (by simp) (by omega)).drew | exact (owns_later (own_lit0 _ _ _ (by simp) (by omega)) (below_alloc1 _ _)).drew | fail) af c cf hFw.out (by omega) rfl rfl ?_; intro A5 c5 y1 ho1 hk1 hn1) | fail)
        all_goals
          go_wp2
          go_ret2
          exact .inr ⟨hn.out, rfl, hl7.out, hq7.out⟩
      · obtain ⟨S1, hS1⟩ : ∃ q, (agTo ks c j).length = q := ⟨_, rfl⟩
        obtain ⟨S2, hS2⟩ : ∃ q, (agN (nth ks j) (c ++ [(j : Int)])).length = q := ⟨_, rfl⟩
        have hnx : Hid (S1 + S2 = (agTo ks c (j + 1)).length) := Lib.hid (by rw [agTo_succ, List.length_append, hS1, hS2])
        have hsum2 : S1 + S2 ≤ 200000 := by rw [← hS1, ← hS2]; exact hsum.out
        have hIH := Lib.hid (fun (y : Later wr) (vf : Value) (hi : IsInts (wout (fun q => decide (q < B)) y.w) vf (c ++ [(j : Int)])) => (hIH0.out y vf hi).mono (R' := fun e w' => e = .returned (.tuple #[.int .i64 (S2 : Nat), .bool true]) ∧ PvAt W w' B (.slice at_ p.opts.length ct) vs (markAll t (agTo ks c (j + 1))) ∧ Kep B y.w w') (fun e w' h => h.elim (fun h => ⟨by rw [← hS2]; exact h.2.1, by rw [agTo_succ, markAll_append]; exact h.2.2.1, h.2.2.2⟩) (fun h => by rw [hK] at h; cases h.1)))
        rw [hS1]
        replace hS1 := Lib.hid hS1
        replace hS2 := Lib.hid hS2
        clear hIH0
        go_region_held3 (fun w' => w'.cell? ⟨b4, 0, none⟩ = some (.slice ap p.panes.length cp) ∧ w'.cell? ⟨b4, 1, none⟩ = some (.slice (some ⟨bo, oo, none⟩) p.opts.length co) ∧ w'.cell? ⟨b4, 2, none⟩ = some (.slice ar p.rules.length cr) ∧ w'.cell? ⟨b5, 2, none⟩ = some (.slice (some ⟨bk, ok, none⟩) ks.length ck) ∧ w'.cell? ⟨bk, ok + j * 3, none⟩ = some (.int .i64 kN) ∧ w'.cell? ⟨bk, ok + j * 3 + 1, none⟩ = some (.int .i64 kI) ∧ w'.cell? ⟨bk, ok + j * 3 + 2, none⟩ = some (.slice au (nth ks j).kids.length cu)) (first | exact hS7 | (refine hSKb.out _ ?_; first | exact Below.drew (Below.refl _ _) | exact (below_alloc1 _ _).drew | exact ((below_alloc1 _ _).alloc (by simp) _).drew | exact Later.h _ | exact (Later.h _).alloc (Later.h _).size _)) (first | (have hI6 := (ints_fresh ho2 (by omega)).cov (cov_fresh (P := fun q => decide (q < B)) fun q hq => by simp; omega); clear ho2 ho1; go_simp; go_at_call 123; refine (hIH.out y2 _ hI6).mono ?_; rintro e w7 ⟨rfl, hl7, hq7⟩; have hS7 := hSK.out _ ((Kep.below y2.h).trans hq7) hl7.later; replace hl7 := Lib.hid hl7; replace hq7 := Lib.hid ((hkp.out.trans (Kep.below y2.h)).trans hq7); clear hI6) | (have hx := hk1; clear hx; refine step_app2 wr (by first | exact Later.h _ | exact (Later.h _).alloc (Later.h _).size _ | fail) rfl (.tmp 62) (.tmp 64) rfl A5 c5 c (by first | exact ho1 | exact owns_later ho1 (below_alloc1 _ _) | fail) y1.w.heap.size j (by first | exact World.cell?_alloc_at _ _ _ 0 rfl | exact hk1.cell (by omega) (cell_b1a _ _ _) | exact hk1.cell (by omega) (cell_b1b _ _) | fail) (by omega) rfl rfl ?_; intro A6 c6 y2 ho2 hk2) | (have hx := hk1; clear hx; refine step_app2 wr (by first | exact Later.h _ | exact (Later.h _).alloc (Later.h _).size _ | fail) rfl (.tmp 62) (.tmp 64) rfl A5 c5 c (by first | exact ho1 | exact owns_later ho1 (below_alloc1 _ _) | fail) (wr.heap.size + 1) j (by first | exact World.cell?_alloc_at _ _ _ 0 rfl | exact hk1.cell (by omega) (cell_b1a _ _ _) | exact hk1.cell (by omega) (cell_b1b _ _) | fail) (by omega) rfl rfl ?_; intro A6 c6 y2 ho2 hk2) | (have hx := hk1; clear hx; refine step_app2 wr (by first | exact Later.h _ | exact (Later.h _).alloc (Later.h _).size _ | fail) rfl (.tmp 62) (.tmp 64) rfl A5 c5 c (by first | exact ho1 | exact owns_later ho1 (below_alloc1 _ _) | fail) wr.heap.size j (by first | exact World.cell?_alloc_at _ _ _ 0 rfl | exact hk1.cell (by omega) (cell_b1a _ _ _) | exact hk1.cell (by omega) (cell_b1b _ _) | fail) (by omega) rfl rfl ?_; intro A6 c6 y2 ho2 hk2) | (refine step_app1 wr (by first | exact (below_alloc1 _ _).drew | exact ((below_alloc1 _ _).alloc (by simp) _).drew | fail) rfl (.tmp 60) (.tmp 61) rfl wr.heap.size (by first | exact (own_lit0 _ _ _ (by simp) (by omega)).drew | exact (owns_later (own_lit0 _ _ _ (by simp) (by omega)) (below_alloc1 _ _)).drew | fail) af c cf hFw.out (by omega) rfl rfl ?_; intro A5 c5 y1 ho1 hk1 hn1) | (refine step_app1 wr (by first | exact (below_alloc1 _ _).drew | exact ((below_alloc1 _ _).alloc (by simp) _).drew | fail) rfl (.tmp 60) (.tmp 61) rfl (wr.heap.size + 1) (by first | exact (own_lit0 _ _ _ (by simp) (by omega)).drew | exact (owns_later (own_lit0 _ _ _ (by simp) (by omega)) (below_alloc1 _ _)).drew | fail) af c cf hFw.out (by omega) rfl rfl ?_; intro A5 c5 y1 ho1 hk1 hn1) | fail)
        all_goals
          have hnx2 := hnx.out
          go_wp2
          go_roundw
          case rel => exact ⟨j + 1, by omega, by go_num, by rw [← hnx2]; go_num, hq7.out, hl7.out, all_step hoks.out hK⟩
          case measure => simp [intOf]; omega
    · obtain rfl : j = ks.length := by omega
      have hok : Hid (okN p (.mk 1 ix ks) c = true) := Lib.hid (by rw [hT.out, okL_iff]; intro i hi; rw [Nat.zero_add]; exact hoks.out i hi)
      replace hpv := Lib.hid hpv
      replace hkp := Lib.hid hkp
      go_wp2
      go_ret2
      exact .inl ⟨hok.out, by rw [agN_branch]; rfl, by rw [agN_branch]; exact hpv.out, hK2.out.trans hkp.out⟩
/-- proves, of any tree -/
theorem rproves {W : World} (p : Prob) (v0 v1 v2 vt : Value) (vs : List Value) (B : Nat) (hp : IsProb W v0 v1 v2 p) (hval : validP p = true) (n : Nd) : PvNode W p B v0 v1 v2 vt vs n :=
  rproves_core p v0 v1 v2 vt vs B n hp hval (fun m _ => rproves p v0 v1 v2 vt vs B hp hval m)
termination_by SizeOf.sizeOf n
decreasing_by exact nd_size n m (by assumption)
end Go.Proofs.Ytmpkbolabdmkkaa
