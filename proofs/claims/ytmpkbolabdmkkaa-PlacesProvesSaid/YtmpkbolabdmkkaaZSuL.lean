/- CONTRACT of the checker's node. -/
import Derived.Test.YtmpkbolabdmkkaaZp
import Derived.Test.YtmpkbolabdmkkaaZk
import Derived.Test.YtmpkbolabdmkkaaZh
namespace Go.Proofs.Ytmpkbolabdmkkaa
open Go.RowKit

theorem cell_one_at {w : World} {b : Nat} {x : Value} (h : w.cell? ⟨b, 0, none⟩ = some x) : ∀ (j : Nat) (u : Value), [x][j]? = some u → w.cell? ((⟨b, 0, none⟩ : Addr).add j) = some u := by
  intro j u hj
  cases j with
  | zero => simp at hj; subst hj; simpa [Addr.add] using h
  | succ j => simp at hj
/-- all choices of some fillings, marked -/
def markAll (t : List (List Bool)) (l : List (List Int)) : List (List Bool) := l.foldl (fun t f => markTo t f f.length) t
theorem markAll_append (t : List (List Bool)) (l m : List (List Int)) : markAll t (l ++ m) = markAll (markAll t l) m := by simp [markAll]
theorem markAll_shape (t : List (List Bool)) : ∀ l : List (List Int), (markAll t l).length = t.length ∧ ∀ i, (nth (markAll t l) i).length = (nth t i).length
  | [] => ⟨rfl, fun _ => rfl⟩
  | f :: l => by
    have h1 := markAll_shape (markTo t f f.length) l
    have h2 := markTo_shape t f f.length
    exact ⟨h1.1.trans h2.1, fun i => (h1.2 i).trans (h2.2 i)⟩
/-- HOW A NODE's CHECK ENDS -/
def CkEnd (W A : World) (bc sx : Nat) (v0 v1 v2 vt : Value) (vs : List Value) (N C : Nat) (t : List (List Bool)) (p : Prob) (n : Nd) (c : List Int) (e : Ending) (w' : World) : Prop :=
  (okN p n c = true ∧ e = .returned (.tuple #[]) ∧ ChkAt W w' bc sx v0 v1 v2 vt vs (N + szN n) (C + (agN n c).length) (markAll t (agN n c)) ∧ Chg bc A w') ∨ (okN p n c = false ∧ PanEnd W A bc e w')
def CkNode (W : World) (p : Prob) (bc sx : Nat) (v0 v1 v2 vt : Value) (vs : List Value) (n : Nd) : Prop := ∀ (A : World) (k vf : Value) (t : List (List Bool)) (N C : Nat) (c : List Int), ChkAt W A bc sx v0 v1 v2 vt vs N C t → IsNd W k n → IsInts (wout (fun q => decide (q ≤ bc)) A) vf c →
  t.length = p.opts.length → (∀ i, (nth t i).length = (nth p.opts i).length) → c.length ≤ p.opts.length → (∀ i, i < c.length → 0 ≤ nth c i ∧ nth c i < (nth p.opts i).length) → N + szN n ≤ 200000 → C ≤ N →
  Calls Try.prog 121 #[.pointer (some ⟨bc, 0, none⟩), .agg #[.int .i64 n.kind, .int .i64 n.index, k], vf] A (CkEnd W A bc sx v0 v1 v2 vt vs N C t p n c)

set_option maxRecDepth 100000 in
set_option maxHeartbeats 8000000 in
theorem pcnode_core {W : World} (p : Prob) (v0 v1 v2 vt : Value) (vs : List Value) (bc sx : Nat) (n : Nd) (hp : IsProb W v0 v1 v2 p) (hcap : ProbCap W v2) (hval : validP p = true) (hkid : ∀ m, m ∈ n.kids → CkNode W p bc sx v0 v1 v2 vt vs m) : CkNode W p bc sx v0 v1 v2 vt vs n := by
  intro A k vf t N C c hC hk hf ht1 ht2 hcl hco hN hCN
  obtain ⟨kd, ix, ks⟩ := n
  obtain ⟨ak, ck, rfl, lk, hkx⟩ := hk.opened
  change ks.length ≤ _ at lk
  have hbA := hC.later
  have HPA := hp.below hbA
  obtain ⟨af, cf, rfl, lf, _⟩ := (hf.cov (cov_all _ _)).opened
  obtain ⟨ap, cp, rfl, lp, _⟩ := hp.panes.opened
  obtain ⟨ao, co, rfl, lo, _⟩ := hp.opts.opened
  obtain ⟨ar, cr, rfl, lr, _⟩ := hp.rules.opened
  obtain ⟨A1, hA1⟩ : ∃ V, A.alloc (.cells #[.int .i64 kd, .int .i64 ix, .slice ak ks.length ck] 64) = V := ⟨_, rfl⟩
  have hb1 : Below A.heap.size A A1 := hA1 ▸ below_alloc1 _ _
  obtain ⟨b4, hB4⟩ : ∃ b, A.heap.size = b := ⟨_, rfl⟩
  have n4 : b4 < A1.heap.size := by rw [← hA1, ← hB4]; simp
  have m0 : A1.cell? ⟨b4, 0, none⟩ = some (.int .i64 kd) := by rw [← hA1, ← hB4]; exact World.cell?_alloc_at _ _ _ 0 rfl
  have m1 : A1.cell? ⟨b4, 1, none⟩ = some (.int .i64 ix) := by rw [← hA1, ← hB4]; exact World.cell?_alloc_at _ _ _ 1 rfl
  have m2 : A1.cell? ⟨b4, 2, none⟩ = some (.slice ak ks.length ck) := by rw [← hA1, ← hB4]; exact World.cell?_alloc_at _ _ _ 2 rfl
  have hC1 := hC.below hb1
  have hch1 : Chg bc A A1 := Chg.below hb1
  have hbb : bc < b4 := hB4 ▸ hC.lt
  have k3 := hC1.c3
  have kf := hC1.f3
  have kz := hC1.lt
  have hsz1 : 1 ≤ szN (.mk kd ix ks) := by simp [szN]
  have hN1 : N + 1 ≤ 200000 := by omega
  replace hN := Lib.hid hN
  show Calls Try.prog 121 #[.pointer (some ⟨bc, 0, none⟩), .agg #[.int .i64 kd, .int .i64 ix, .slice ak ks.length ck], .slice af c.length cf] A _
  go_enter Try.func121, Try.ntmps121
  go_upto_region 1 with (fail)
  go_upto_region 2 with (fail)
  obtain ⟨A2, hA2⟩ : ∃ V, A1.setCell ⟨bc, 3, none⟩ (.int .i64 ((N : Int) + 1)) = V := ⟨_, rfl⟩
  have hC2 := hC1.setNode (N + 1)
  have hch2 := hch1.trans (Chg.set (A := A1) (bc := bc) (Nat.le_refl _) 3 (.int .i64 ((N + 1 : Nat) : Int)))
  rw [show ((N + 1 : Nat) : Int) = (N : Int) + 1 by omega, hA2] at hC2 hch2
  have hsz2 : A2.heap.size = A1.heap.size := by rw [← hA2]; simp [World.setCell]
  have hne : ∀ o, (⟨bc, 3, none⟩ : Addr) ≠ ⟨b4, o, none⟩ := fun o e => by cases e; omega
  have n0 : ∀ y : Later A2, y.w.cell? ⟨b4, 0, none⟩ = some (.int .i64 kd) := Later.cell (by omega) (by rw [← hA2]; exact (World.cell?_setCell_other _ _ _ _ (hne 0)).trans m0)
  have n1 : ∀ y : Later A2, y.w.cell? ⟨b4, 1, none⟩ = some (.int .i64 ix) := Later.cell (by omega) (by rw [← hA2]; exact (World.cell?_setCell_other _ _ _ _ (hne 1)).trans m1)
  have n2 : ∀ y : Later A2, y.w.cell? ⟨b4, 2, none⟩ = some (.slice ak ks.length ck) := Later.cell (by omega) (by rw [← hA2]; exact (World.cell?_setCell_other _ _ _ _ (hne 2)).trans m2)
  rw [hA2]
  clear hA2 m0 m1 m2 k3 kf kz hC1 hch1 hne hb1 hA1
  have s4 : ∀ y : Later A2, b4 < y.w.heap.size := Later.size (by omega)
  have sc : ∀ y : Later A2, bc < y.w.heap.size := Later.size hC2.lt
  have d0 : ∀ y : Later A2, y.w.cell? ⟨bc, 0, none⟩ = some (.slice ap p.panes.length cp) := Later.cell hC2.lt hC2.c0
  have d1 : ∀ y : Later A2, y.w.cell? ⟨bc, 1, none⟩ = some (.slice ao p.opts.length co) := Later.cell hC2.lt hC2.c1
  have d2 : ∀ y : Later A2, y.w.cell? ⟨bc, 2, none⟩ = some (.slice ar p.rules.length cr) := Later.cell hC2.lt hC2.c2
  have d3 : ∀ y : Later A2, y.w.cell? ⟨bc, 3, none⟩ = some (.int .i64 ((N : Int) + 1)) := Later.cell hC2.lt (hC2.c3.trans (by simp))
  have hf2 : IsInts (wout (fun q => decide (q ≤ bc)) A2) (.slice af c.length cf) c := hf.cov (cov_out hch2.size fun q hq hP => ⟨hP, hch2.block q hq (by simpa using hP)⟩)
  have HP := Lib.hid (hp.below hC2.later)
  have HF := Lib.hid (hf2.cov (cov_all _ _))
  have hN8 : decide ((N : Int) + 1 ≤ 200000) = true := by rw [decide_eq_true_iff]; omega
  have hLw := hC2.later
  have hpan : Hid (∀ y : Later A2, okN p (.mk kd ix ks) c = false → CkEnd W A bc sx (.slice ap p.panes.length cp) (.slice ao p.opts.length co) (.slice ar p.rules.length cr) vt vs N C t p (.mk kd ix ks) c (.panicked unlawful) y.w) := Lib.hid (fun y h => .inr ⟨h, rfl, ⟨⟨y.w, hLw.trans (y.h.mono hLw.size)⟩, rfl⟩, hch2.trans (Chg.below y.h)⟩)
  clear hf HPA hbA
  show Code.wp _ _ _ _ (Later.now A2).w
  generalize Later.now A2 = x1
  go_upto_region 4 with (go_at_call 154; refine (must_yes _).mono ?_; rintro e w' ⟨rfl, rfl⟩)
  clear hN8
  replace hN1 := Lib.hid hN1
  by_cases hk1 : kd = 1
  · subst hk1
    cases ha : (ix == (c.length : Int))
    · have hno : Hid (okN p (.mk 1 ix ks) c = false) := Lib.hid (by rw [okN_branch, decide_eq_false (fun h => by simp [h.1] at ha)]; rfl)
      go_upto_region 8 with (fail)
      refine wp_region_later_tail x1 32 (by kernel_rfl) (by kernel_rfl) ?_
      simp only [List.take_succ_cons, List.take_zero, List.drop_succ_cons, List.drop_zero]
      repeat (go_big_quiet_step (fail))
      refine wpQuiet_nil ?_
      rintro _ ⟨x1, rfl⟩
      go_wp2_with (go_at_call 154; refine (must_no _).mono ?_; rintro e w' ⟨rfl, rfl⟩)
      exact ⟨rfl, hpan.out _ hno.out⟩
    cases hb : decide (c.length < p.panes.length)
    · have hno : Hid (okN p (.mk 1 ix ks) c = false) := Lib.hid (by rw [okN_branch, decide_eq_false (fun h => by simp [h.2.1] at hb)]; rfl)
      go_upto_region 8 with (fail)
      refine wp_region_later_tail x1 32 (by kernel_rfl) (by kernel_rfl) ?_
      simp only [List.take_succ_cons, List.take_zero, List.drop_succ_cons, List.drop_zero]
      repeat (go_big_quiet_step (fail))
      refine wpQuiet_nil ?_
      rintro _ ⟨x1, rfl⟩
      go_wp2_with (go_at_call 154; refine (must_no _).mono ?_; rintro e w' ⟨rfl, rfl⟩)
      exact ⟨rfl, hpan.out _ hno.out⟩
    have hcp : c.length < p.panes.length := by simpa using hb
    have hcp2 : c.length < p.opts.length := by have := valid_len hval; omega
    obtain ⟨_, _, hqq, _, hopts⟩ := HP.out.opts.opened
    cases hqq
    obtain ⟨bo, oo, rfl, hbo, uo, co0, hO⟩ := hopts.out c.length hcp2
    obtain ⟨av, cv, rfl, lv, _⟩ := hO.opened
    clear hO hopts
    replace hcp := Lib.hid hcp
    cases hc : ((ks.length : Int) == ((nth p.opts c.length).length : Int))
    · have hno : Hid (okN p (.mk 1 ix ks) c = false) := Lib.hid (by rw [okN_branch, decide_eq_false (fun h => by simp [h.2.2] at hc)]; rfl)
      go_upto_region 8 with (fail)
      refine wp_region_later_tail x1 32 (by kernel_rfl) (by kernel_rfl) ?_
      simp only [List.take_succ_cons, List.take_zero, List.drop_succ_cons, List.drop_zero]
      repeat (go_big_quiet_step (fail))
      refine wpQuiet_nil ?_
      rintro _ ⟨x1, rfl⟩
      go_wp2_with (go_at_call 154; refine (must_no _).mono ?_; rintro e w' ⟨rfl, rfl⟩)
      exact ⟨rfl, hpan.out _ hno.out⟩
    have hkl : ks.length = (nth p.opts c.length).length := by have := eq_of_beq hc; omega
    have hT : Hid (okN p (.mk 1 ix ks) c = okL p ks c 0) := Lib.hid (by rw [okN_branch, decide_eq_true ⟨by simpa using ha, hcp.out, hkl⟩, Bool.true_and])
    have hk300 : ks.length ≤ 300 := by have := (valid_opts hval hcp2).2; omega
    have hc64 : c.length ≤ 64 := by have := valid_pane64 hval; have := hcp.out; omega
    go_upto_region 8 with (fail)
    refine wp_region_later x1 (by kernel_rfl) (by kernel_rfl) ?_
    repeat (go_big_quiet_step ((go_at_call 154; exact calls_same (must_yes _))))
    refine wpQuiet_nil ?_
    rintro _ ⟨x1, rfl⟩
    replace hkl := Lib.hid hkl
    clear ha hb hc
    go_wp2
    have hC3 := hC2.below x1.h
    have hch3 := Chg.below (bc := bc) x1.h
    go_loopw [67] (fun iv wr => ∃ j : Nat, j ≤ ks.length ∧ iv = .int .i64 j ∧ Chg bc A2 wr ∧ ChkAt W wr bc sx (.slice ap p.panes.length cp) (.slice (some ⟨bo, oo, none⟩) p.opts.length co) (.slice ar p.rules.length cr) vt vs (N + 1 + szTo ks j) (C + (agTo ks c j).length) (markAll t (agTo ks c j)) ∧ ∀ i, i < j → okN p (nth ks i) (c ++ [((i : Nat) : Int)]) = true) (fun iv _ => ks.length - (intOf iv).toNat)
    case atStart => exact ⟨0, Nat.zero_le _, rfl, hch3, hC3, by omega⟩
    case round =>
      clear hC3 hch3 x1
      obtain ⟨j, hj, rfl, hchg, hchk, hoks⟩ := hrel
      replace hoks := Lib.hid hoks
      have hLw2 := hchk.later
      by_cases hlt : j < ks.length
      · obtain ⟨bk, ok, rfl, hbk, u, r0, r1, r2, hnd⟩ := hkx.out j hlt
        change ∀ x : Later W, x.w.cell? _ = some (.int .i64 (nth ks j).kind) at r0
        change ∀ x : Later W, x.w.cell? _ = some (.int .i64 (nth ks j).index) at r1
        change IsNd W u (nth ks j) at hnd
        have hND := Lib.hid hnd
        obtain ⟨au, cu, rfl, lu, _⟩ := hnd.opened
        clear hnd
        have r0' := r0 ⟨wr, hLw2⟩
        have r1' := r1 ⟨wr, hLw2⟩
        have r2' := r2 ⟨wr, hLw2⟩
        have hbk' := hbk ⟨wr, hLw2⟩
        change wr.cell? _ = _ at r0' r1' r2'
        change _ < wr.heap.size at hbk'
        have hfw : IsInts (wout (fun q => decide (q ≤ bc)) wr) (.slice af c.length cf) c := hf2.cov (cov_out hchg.size fun q hq hP => ⟨hP, hchg.block q hq (by simpa using hP)⟩)
        have hszk : szTo ks (j + 1) = szTo ks j + szN (nth ks j) := rfl
        have hmono := szTo_mono ks (j + 1) ks.length (by omega)
        have hall := szTo_all ks
        have hN7 := hN.out
        have hszn : szN (.mk 1 ix ks) = 1 + szL ks := by simp [szN]
        have hag := agTo_len ks c j
        have hkl' := hkl.out
        obtain ⟨kN, hkN⟩ : ∃ q, (nth ks j).kind = q := ⟨_, rfl⟩
        obtain ⟨kI, hkI⟩ : ∃ q, (nth ks j).index = q := ⟨_, rfl⟩
        rw [hkN] at r0'
        rw [hkI] at r1'
        obtain ⟨E, hE⟩ : ∃ V, wr.alloc (.cells #[.int .i64 kN, .int .i64 kI, .slice au (nth ks j).kids.length cu] 64) = V := ⟨_, rfl⟩
        obtain ⟨b7, hB7⟩ : ∃ b, wr.heap.size = b := ⟨_, rfl⟩
        have hbE : Below wr.heap.size wr E := hE ▸ below_alloc1 _ _
        have hEs : E.heap.size = b7 + 1 := by rw [← hE, ← hB7]; simp
        have hbox : Hid (∀ y : Later E, y.w.cell? ⟨b7, 0, none⟩ = some (.int .i64 kN) ∧ y.w.cell? ⟨b7, 1, none⟩ = some (.int .i64 kI) ∧ y.w.cell? ⟨b7, 2, none⟩ = some (.slice au (nth ks j).kids.length cu) ∧ b7 < y.w.heap.size) := Lib.hid (fun y => ⟨Later.cell (by omega) (by rw [← hE, ← hB7]; exact World.cell?_alloc_at _ _ _ 0 rfl) y, Later.cell (by omega) (by rw [← hE, ← hB7]; exact World.cell?_alloc_at _ _ _ 1 rfl) y, Later.cell (by omega) (by rw [← hE, ← hB7]; exact World.cell?_alloc_at _ _ _ 2 rfl) y, Later.size (by omega) y⟩)
        have hbcE : bc < E.heap.size := Nat.lt_of_lt_of_le hchk.lt hbE.size
        have hchkE := hchk.below hbE
        have hchgE := hchg.trans (Chg.below hbE)
        have hfE : IsInts (wout (fun q => decide (q ≤ bc)) E) (.slice af c.length cf) c := hfw.cov (cov_below hbE)
        replace hszk := Lib.hid hszk
        replace hmono := Lib.hid hmono
        replace hall := Lib.hid hall
        replace hN7 := Lib.hid hN7
        replace hszn := Lib.hid hszn
        replace hag := Lib.hid hag
        replace hkl' := Lib.hid hkl'
        go_upto_region 12 with (fail)
        clear r0' r1' r2' hbk' hbE hchk hchg hfw
        have hkm : nth ks j ∈ ks := nth_mem hlt
        obtain ⟨D1, hD1e⟩ : ∃ D, D = E.drew := ⟨_, rfl⟩
        obtain ⟨D2, hD2e⟩ : ∃ D, D = (E.alloc (.cells #[.int .i64 j] 3)).drew := ⟨_, rfl⟩
        have hD1 : Below E.heap.size E D1 := hD1e ▸ Below.drew (Below.refl _ _)
        have hD2 : Below E.heap.size E D2 := hD2e ▸ (below_alloc1 _ _).drew
        have hz2 : D2.heap.size = E.heap.size + 1 := by rw [hD2e]; simp
        have hz1 : D1.heap.size = E.heap.size := by rw [hD1e]; simp
        have hkc : Hid (∀ y : Later D2, y.w.cell? ⟨E.heap.size, 0, none⟩ = some (.int .i64 j)) := Lib.hid (Later.cell (by omega) (by rw [hD2e]; exact (World.cell?_alloc_at _ _ _ 0 rfl)))
        have hcl1 := Lib.hid (pcloneI (Later.now D1) _ c ((hfE.cov (cov_all _ _)).below hD1))
        have hcl2 := Lib.hid (pcloneI (Later.now D2) _ c ((hfE.cov (cov_all _ _)).below hD2))
        have hint : Hid (∀ (D : World) (_ : bc < D.heap.size) (y : Later D) (A : Option Addr) (cc : Nat), y.w.ownsRow D.heap.size 3 1 (.slice A (c.length + 1) cc) (c.length + 1) (c.map (Value.int .i64) ++ [.int .i64 j]) → IsInts (wout (fun q => decide (q ≤ bc)) y.w) (.slice A (c.length + 1) cc) (c ++ [(j : Int)])) := Lib.hid (fun D hDb y A cc h => by
          have h2 := owns_fresh h
          have e1 : c.length + 1 = (c ++ [(j : Int)]).length := by simp
          have e2 : c.map (Value.int .i64) ++ [.int .i64 j] = (c ++ [(j : Int)]).map (Value.int .i64) := by simp
          rw [e2] at h2
          have h3 : ∀ n, n = (c ++ [(j : Int)]).length → (wout (fun k => decide (k < D.heap.size)) y.w).ownsRow D.heap.size 3 1 (.slice A n cc) n ((c ++ [(j : Int)]).map (Value.int .i64)) → IsInts (wout (fun k => decide (k < D.heap.size)) y.w) (.slice A n cc) (c ++ [(j : Int)]) := by
            rintro n rfl h; exact isInts_of_owns h (by simp; omega)
          exact (h3 _ e1 h2).cov (cov_fresh fun q hq => by simp; omega))
        have hsh := markAll_shape t (agTo ks c j)
        have hIH0 := Lib.hid (fun (y : Later E) (vf : Value) (hi : IsInts (wout (fun q => decide (q ≤ bc)) y.w) vf (c ++ [(j : Int)])) => hkid (nth ks j) hkm y.w _ vf (markAll t (agTo ks c j)) (N + 1 + szTo ks j) (C + (agTo ks c j).length) (c ++ [(j : Int)]) (hchkE.below y.h) hND.out hi (hsh.1.trans ht1) (fun i => (hsh.2 i).trans (ht2 i)) (by simp; omega) (fun i hi => by
          rw [List.length_append, List.length_singleton] at hi
          rcases Nat.lt_succ_iff_lt_or_eq.1 hi with h3 | rfl
          · rw [nth_append_left h3]; exact hco i h3
          · rw [nth_snoc]; have := hkl'.out; omega) (by have h1 := hszk.out; have h2 := hmono.out; have h3 := hall.out; have h4 := hN7.out; have h5 := hszn.out; omega) (by have := hag.out; omega))
        rw [hkN, hkI] at hIH0
        replace hD1e := Lib.hid hD1e
        replace hD2e := Lib.hid hD2e
        replace hD1 := Lib.hid hD1
        replace hD2 := Lib.hid hD2
        replace hz1 := Lib.hid hz1
        replace hz2 := Lib.hid hz2
        replace hchkE := Lib.hid hchkE
        replace hchgE := Lib.hid hchgE
        replace hsh := Lib.hid hsh
        replace hkN := Lib.hid hkN
        replace hkI := Lib.hid hkI
        obtain ⟨e0, e1, e2, ez⟩ := hbox.out (Later.now E)
        change E.cell? _ = _ at e0 e1 e2
        change _ < E.heap.size at ez
        clear hfE hEs
        cases hK : okN p (nth ks j) (c ++ [(j : Int)])
        · have hno : Hid (okN p (.mk 1 ix ks) c = false) := Lib.hid (by
            rw [hT.out]
            cases hall2 : okL p ks c 0
            · rfl
            · have := (okL_iff ks 0).1 hall2 j hlt
              rw [Nat.zero_add, hK] at this; cases this)
          have hIH := Lib.hid (fun (y : Later E) (vf : Value) (hi : IsInts (wout (fun q => decide (q ≤ bc)) y.w) vf (c ++ [(j : Int)])) => (hIH0.out y vf hi).mono (R' := fun e w' => PanEnd W y.w bc e w') (fun e w' h => h.elim (fun h => by rw [hK] at h; cases h.1) (fun h => h.2)))
          go_region_law (first | (have hx := hI6; clear hx; go_simp; go_at_call 121; refine (hIH.out y6 _ hI6.out).mono ?_; rintro e w7 ⟨rfl, ⟨y7, rfl⟩, hg7⟩; refine (fun _ => ⟨rfl, .inr ⟨hno.out, rfl, ⟨y7, rfl⟩, ((hch2.trans hchgE.out).trans (Chg.below y6.h)).trans hg7⟩⟩ : wpAny Try.prog .any #[] (fun _ _ _ => True) 0 #[] ⟨#[], []⟩ y7.w → _) ?_) | (have hx := yA; clear hx; refine step_appN rfl (.tmp 75) (.tmp 77) 22 rfl 3 _ 1 8 Try.info3 rfl (by decide) Try.underlying22 _ c.length (c.map (Value.int .i64)) D1.heap.size ho5.out (by have := y1.h.size; simp at this ⊢; omega) ⟨y1.w.heap.size, 0, none⟩ 1 1 [.int .i64 j] rfl (by simp [Act.eval]) (by simp [Act.eval]) (cell_one_new _ _ _) (by simp [Value.oneCell']) (by omega) (by omega) ?_; intro v6 w' ho hg6 h56; obtain ⟨A6, c6, rfl⟩ := owns_slice ho; obtain ⟨z6, rfl⟩ : ∃ z6 : Later D1, w' = z6.w := yA.grown (hyA.out ▸ hg6) (fun g hg' => (ho5.out.lt g hg').1); have hI6 := Lib.hid (hint.out _ (by have := hz1.out; have := hz2.out; omega) z6 A6 c6 ho); obtain ⟨y6, hy6w⟩ : ∃ y6 : Later E, z6.w = y6.w := ⟨⟨z6.w, below_then hD1.out z6⟩, rfl⟩; rw [hy6w] at hI6; rw [hy6w]; clear ho hg6 h56 ho5 hy6w z6; obtain ⟨k0, k1, k2, kz⟩ := hbox.out y6) | (have hx := y2.h; clear hx; refine step_appN rfl (.tmp 75) (.tmp 77) 22 rfl 3 _ 1 8 Try.info3 rfl (by decide) Try.underlying22 _ c.length (c.map (Value.int .i64)) D2.heap.size ho5.out y2.h.size ⟨E.heap.size, 0, none⟩ 1 1 [.int .i64 j] rfl (by simp [Act.eval]) (by simp [Act.eval]) (cell_one_at (hkc.out y2)) (by simp [Value.oneCell']) (by omega) (by omega) ?_; intro v6 w' ho hg6 h56; obtain ⟨A6, c6, rfl⟩ := owns_slice ho; obtain ⟨z6, rfl⟩ : ∃ z6 : Later D2, w' = z6.w := y2.grown hg6 (fun g hg' => (ho5.out.lt g hg').1); have hI6 := Lib.hid (hint.out _ (by have := hz1.out; have := hz2.out; omega) z6 A6 c6 ho); obtain ⟨y6, hy6w⟩ : ∃ y6 : Later E, z6.w = y6.w := ⟨⟨z6.w, below_then hD2.out z6⟩, rfl⟩; rw [hy6w] at hI6; rw [hy6w]; clear ho hg6 h56 ho5 hy6w z6; obtain ⟨k0, k1, k2, kz⟩ := hbox.out y6) | (go_simp; go_at_call 68; rw [← hD1e.out]; refine hcl1.out.mono ?_; rintro e w' ⟨u5, rfl, y1, rfl, hown⟩; obtain ⟨A5, c5, rfl⟩ := owns_slice hown; have ho5 := Lib.hid (owns_later hown (below_alloc1 y1.w (.cells #[.int .i64 j] 3))); clear hown; obtain ⟨yA, hyA⟩ := y1.alloc (.cells #[.int .i64 j] 3); replace hyA := Lib.hid hyA; obtain ⟨g0, g1, g2, gz⟩ := hbox.out ⟨y1.w, below_then hD1.out y1⟩; change y1.w.cell? _ = _ at g0 g1 g2; change _ < y1.w.heap.size at gz; have hysz : E.heap.size ≤ y1.w.heap.size := (below_then hD1.out y1).size) | (go_simp; go_at_call 68; rw [← hD2e.out]; refine hcl2.out.mono ?_; rintro e w' ⟨u5, rfl, y2, rfl, hown⟩; obtain ⟨A5, c5, rfl⟩ := owns_slice hown; have ho5 := Lib.hid hown; clear hown; obtain ⟨g0, g1, g2, gz⟩ := hbox.out ⟨y2.w, below_then hD2.out y2⟩; change y2.w.cell? _ = _ at g0 g1 g2; change _ < y2.w.heap.size at gz))
          all_goals trivial
        · have hIH := Lib.hid (fun (y : Later E) (vf : Value) (hi : IsInts (wout (fun q => decide (q ≤ bc)) y.w) vf (c ++ [(j : Int)])) => (hIH0.out y vf hi).mono (R' := fun e w' => e = .returned (.tuple #[]) ∧ ChkAt W w' bc sx (.slice ap p.panes.length cp) (.slice (some ⟨bo, oo, none⟩) p.opts.length co) (.slice ar p.rules.length cr) vt vs (N + 1 + szTo ks j + szN (nth ks j)) (C + (agTo ks c j).length + (agN (nth ks j) (c ++ [(j : Int)])).length) (markAll (markAll t (agTo ks c j)) (agN (nth ks j) (c ++ [(j : Int)]))) ∧ Chg bc y.w w') (fun e w' h => h.elim (fun h => h.2) (fun h => by rw [hK] at h; cases h.1)))
          refine region_cut5 (fun _ _ _ _ _ w' => Chg bc A2 w' ∧ ChkAt W w' bc sx (.slice ap p.panes.length cp) (.slice (some ⟨bo, oo, none⟩) p.opts.length co) (.slice ar p.rules.length cr) vt vs (N + 1 + szTo ks (j + 1)) (C + (agTo ks c (j + 1)).length) (markAll t (agTo ks c (j + 1)))) ?F ?paths ?cont
          case paths =>
            intro hcont
            go_region_law (first | (have hx := hI6; clear hx; go_simp; go_at_call 121; refine (hIH.out y6 _ hI6.out).mono ?_; rintro e w7 ⟨rfl, hc7, hg7⟩; have hch9 := Lib.hid ((hchgE.out.trans (Chg.below y6.h)).trans hg7); have hc9 := Lib.hid hc7; clear hc7 hg7; rw [Nat.add_assoc (N + 1), ← hszk.out, Nat.add_assoc C, ← List.length_append, ← agTo_succ, ← markAll_append, ← agTo_succ] at hc9) | (have hx := yA; clear hx; refine step_appN rfl (.tmp 75) (.tmp 77) 22 rfl 3 _ 1 8 Try.info3 rfl (by decide) Try.underlying22 _ c.length (c.map (Value.int .i64)) D1.heap.size ho5.out (by have := y1.h.size; simp at this ⊢; omega) ⟨y1.w.heap.size, 0, none⟩ 1 1 [.int .i64 j] rfl (by simp [Act.eval]) (by simp [Act.eval]) (cell_one_new _ _ _) (by simp [Value.oneCell']) (by omega) (by omega) ?_; intro v6 w' ho hg6 h56; obtain ⟨A6, c6, rfl⟩ := owns_slice ho; obtain ⟨z6, rfl⟩ : ∃ z6 : Later D1, w' = z6.w := yA.grown (hyA.out ▸ hg6) (fun g hg' => (ho5.out.lt g hg').1); have hI6 := Lib.hid (hint.out _ (by have := hz1.out; have := hz2.out; omega) z6 A6 c6 ho); obtain ⟨y6, hy6w⟩ : ∃ y6 : Later E, z6.w = y6.w := ⟨⟨z6.w, below_then hD1.out z6⟩, rfl⟩; rw [hy6w] at hI6; rw [hy6w]; clear ho hg6 h56 ho5 hy6w z6; obtain ⟨k0, k1, k2, kz⟩ := hbox.out y6) | (have hx := y2.h; clear hx; refine step_appN rfl (.tmp 75) (.tmp 77) 22 rfl 3 _ 1 8 Try.info3 rfl (by decide) Try.underlying22 _ c.length (c.map (Value.int .i64)) D2.heap.size ho5.out y2.h.size ⟨E.heap.size, 0, none⟩ 1 1 [.int .i64 j] rfl (by simp [Act.eval]) (by simp [Act.eval]) (cell_one_at (hkc.out y2)) (by simp [Value.oneCell']) (by omega) (by omega) ?_; intro v6 w' ho hg6 h56; obtain ⟨A6, c6, rfl⟩ := owns_slice ho; obtain ⟨z6, rfl⟩ : ∃ z6 : Later D2, w' = z6.w := y2.grown hg6 (fun g hg' => (ho5.out.lt g hg').1); have hI6 := Lib.hid (hint.out _ (by have := hz1.out; have := hz2.out; omega) z6 A6 c6 ho); obtain ⟨y6, hy6w⟩ : ∃ y6 : Later E, z6.w = y6.w := ⟨⟨z6.w, below_then hD2.out z6⟩, rfl⟩; rw [hy6w] at hI6; rw [hy6w]; clear ho hg6 h56 ho5 hy6w z6; obtain ⟨k0, k1, k2, kz⟩ := hbox.out y6) | (go_simp; go_at_call 68; rw [← hD1e.out]; refine hcl1.out.mono ?_; rintro e w' ⟨u5, rfl, y1, rfl, hown⟩; obtain ⟨A5, c5, rfl⟩ := owns_slice hown; have ho5 := Lib.hid (owns_later hown (below_alloc1 y1.w (.cells #[.int .i64 j] 3))); clear hown; obtain ⟨yA, hyA⟩ := y1.alloc (.cells #[.int .i64 j] 3); replace hyA := Lib.hid hyA; obtain ⟨g0, g1, g2, gz⟩ := hbox.out ⟨y1.w, below_then hD1.out y1⟩; change y1.w.cell? _ = _ at g0 g1 g2; change _ < y1.w.heap.size at gz; have hysz : E.heap.size ≤ y1.w.heap.size := (below_then hD1.out y1).size) | (go_simp; go_at_call 68; rw [← hD2e.out]; refine hcl2.out.mono ?_; rintro e w' ⟨u5, rfl, y2, rfl, hown⟩; obtain ⟨A5, c5, rfl⟩ := owns_slice hown; have ho5 := Lib.hid hown; clear hown; obtain ⟨g0, g1, g2, gz⟩ := hbox.out ⟨y2.w, below_then hD2.out y2⟩; change y2.w.cell? _ = _ at g0 g1 g2; change _ < y2.w.heap.size at gz))
            all_goals (go_simp; first | (generalize y1.w.heap.size = n1; exact hcont A5 c5 n1 A6 c6 _ ⟨hch9.out, hc9.out⟩) | (generalize E.heap.size = n1; exact hcont A5 c5 n1 A6 c6 _ ⟨hch9.out, hc9.out⟩))
          case cont =>
            rintro A5 c5 n1 A6 c6 w' ⟨hg', hc'⟩
            replace hg' := Lib.hid hg'
            replace hc' := Lib.hid hc'
            go_wp2
            go_roundw
            case rel => exact ⟨j + 1, by omega, by go_num, hg'.out, hc'.out, all_step hoks.out hK⟩
            case measure => simp [intOf]; omega
      · obtain rfl : j = ks.length := by omega
        replace hchk := Lib.hid hchk
        replace hchg := Lib.hid hchg
        have hall := szTo_all ks
        have hok : Hid (okN p (.mk 1 ix ks) c = true) := Lib.hid (by rw [hT.out, okL_iff]; intro i hi; rw [Nat.zero_add]; exact hoks.out i hi)
        replace hall := Lib.hid hall
        go_wp2
        go_end0
        refine .inl ⟨hok.out, rfl, ?_, hch2.trans hchg.out⟩
        rw [agN_branch, szN, hall.out, ← Nat.add_assoc]
        exact hchk.out
  · by_cases h2 : kd = 2
    · subst h2
      have hT : Hid (okN p (.mk 2 ix ks) c = (decide (ks.length = 0) && leafB p 2 ix c)) := Lib.hid (okN_leaf (by decide))
      by_cases hz : ks.length = 0
      case neg =>
        have hno : Hid (okN p (.mk 2 ix ks) c = false) := Lib.hid (by rw [hT.out, decide_eq_false hz]; rfl)
        have hz2 : ((ks.length : Int) == 0) = false := by simp; intro h; exact hz (by simp [h])
        replace hz := Lib.hid hz
        go_wp2_with (go_at_call 154; refine (must_no _).mono ?_; rintro e w' ⟨rfl, rfl⟩)
        exact ⟨rfl, hpan.out _ hno.out⟩
      have hz2 : ((ks.length : Int) == 0) = true := by simp [hz]
      have hag : agN (.mk 2 ix ks) c = [c] := by rw [agN_leaf (by decide)]; rfl
      have hsz : szN (.mk 2 ix ks) = 1 := by rw [szN, List.length_eq_zero_iff.1 hz]; rfl
      have hLF := Lib.hid (fun y : Later A2 => pleaf2 p _ _ _ vt (.slice ak ks.length ck) (.slice af c.length cf) vs t bc sx (N + 1) C ix c (hC2.below y.h) hp hval (by have := hN1.out; omega) ⟨ht1, ht2⟩ ⟨_, _, _, rfl⟩ (hf2.cov (cov_below y.h)) hcl hco)
      have hdec : Hid (okN p (.mk 2 ix ks) c = leafB p 2 ix c) := Lib.hid (by rw [hT.out, decide_eq_true hz, Bool.true_and])
      have hout : Hid (∀ (y : Later A2) (e : Ending) (w' : World), LeafEnd W y.w bc sx (.slice ap p.panes.length cp) (.slice ao p.opts.length co) (.slice ar p.rules.length cr) vt vs (N + 1) C t p 2 ix c e w' → CkEnd W A bc sx (.slice ap p.panes.length cp) (.slice ao p.opts.length co) (.slice ar p.rules.length cr) vt vs N C t p (.mk 2 ix ks) c e w') := Lib.hid (by
        rintro y e w' (⟨h1, h2, h3, h4⟩ | ⟨h1, h2⟩)
        · refine .inl ⟨by rw [hdec.out]; exact h1, h2, ?_, (hch2.trans (Chg.below y.h)).trans h4⟩
          rw [hag, hsz]
          exact h3
        · exact .inr ⟨by rw [hdec.out]; exact h1, h2.1, h2.2.1, (hch2.trans (Chg.below y.h)).trans h2.2.2⟩)
      replace hz := Lib.hid hz
      replace hag := Lib.hid hag
      replace hsz := Lib.hid hsz
      cases hB : leafB p 2 ix c
      · have hLN := Lib.hid (fun y : Later A2 => (hLF.out y).mono (R' := fun e w' => e = .panicked unlawful ∧ CkEnd W A bc sx (.slice ap p.panes.length cp) (.slice ao p.opts.length co) (.slice ar p.rules.length cr) vt vs N C t p (.mk 2 ix ks) c e w') (fun e w' h => ⟨h.elim (fun h => by rw [hB] at h; cases h.1) (fun h => h.2.1), hout.out y e w' h⟩))
        go_wp2_with (first | (go_at_call 154; refine (must_yes _).mono ?_; rintro e w' ⟨rfl, rfl⟩) | (go_at_call 155; refine (hLN.out _).mono ?_; rintro e w7 ⟨rfl, hfin⟩))
        exact ⟨rfl, hfin⟩
      · have hLY := Lib.hid (fun y : Later A2 => (hLF.out y).mono (R' := fun e w' => e = .returned (.tuple #[]) ∧ CkEnd W A bc sx (.slice ap p.panes.length cp) (.slice ao p.opts.length co) (.slice ar p.rules.length cr) vt vs N C t p (.mk 2 ix ks) c e w') (fun e w' h => ⟨h.elim (fun h => h.2.1) (fun h => by rw [hB] at h; cases h.1), hout.out y e w' h⟩))
        go_wp2_with (first | (go_at_call 154; refine (must_yes _).mono ?_; rintro e w' ⟨rfl, rfl⟩) | (go_at_call 155; refine (hLY.out _).mono ?_; rintro e w7 ⟨rfl, hfin⟩))
        go_end0
        exact hfin
    by_cases h3 : kd = 3
    · subst h3
      have hT : Hid (okN p (.mk 3 ix ks) c = (decide (ks.length = 0) && leafB p 3 ix c)) := Lib.hid (okN_leaf (by decide))
      by_cases hz : ks.length = 0
      case neg =>
        have hno : Hid (okN p (.mk 3 ix ks) c = false) := Lib.hid (by rw [hT.out, decide_eq_false hz]; rfl)
        have hz2 : ((ks.length : Int) == 0) = false := by simp; intro h; exact hz (by simp [h])
        replace hz := Lib.hid hz
        go_wp2_with (go_at_call 154; refine (must_no _).mono ?_; rintro e w' ⟨rfl, rfl⟩)
        exact ⟨rfl, hpan.out _ hno.out⟩
      have hz2 : ((ks.length : Int) == 0) = true := by simp [hz]
      have hag : agN (.mk 3 ix ks) c = [] := by rw [agN_leaf (by decide)]; rfl
      have hsz : szN (.mk 3 ix ks) = 1 := by rw [szN, List.length_eq_zero_iff.1 hz]; rfl
      have hLF := Lib.hid (fun y : Later A2 => pleaf3 p _ _ _ vt (.slice ak ks.length ck) (.slice af c.length cf) vs t bc sx (N + 1) C ix c (hC2.below y.h) hp ⟨_, _, _, rfl⟩ (hf2.cov (cov_below y.h)) hcl hco)
      have hdec : Hid (okN p (.mk 3 ix ks) c = leafB p 3 ix c) := Lib.hid (by rw [hT.out, decide_eq_true hz, Bool.true_and])
      have hout : Hid (∀ (y : Later A2) (e : Ending) (w' : World), LeafEnd W y.w bc sx (.slice ap p.panes.length cp) (.slice ao p.opts.length co) (.slice ar p.rules.length cr) vt vs (N + 1) C t p 3 ix c e w' → CkEnd W A bc sx (.slice ap p.panes.length cp) (.slice ao p.opts.length co) (.slice ar p.rules.length cr) vt vs N C t p (.mk 3 ix ks) c e w') := Lib.hid (by
        rintro y e w' (⟨h1, h2, h3, h4⟩ | ⟨h1, h2⟩)
        · refine .inl ⟨by rw [hdec.out]; exact h1, h2, ?_, (hch2.trans (Chg.below y.h)).trans h4⟩
          rw [hag, hsz]
          exact h3
        · exact .inr ⟨by rw [hdec.out]; exact h1, h2.1, h2.2.1, (hch2.trans (Chg.below y.h)).trans h2.2.2⟩)
      replace hz := Lib.hid hz
      replace hag := Lib.hid hag
      replace hsz := Lib.hid hsz
      cases hB : leafB p 3 ix c
      · have hLN := Lib.hid (fun y : Later A2 => (hLF.out y).mono (R' := fun e w' => e = .panicked unlawful ∧ CkEnd W A bc sx (.slice ap p.panes.length cp) (.slice ao p.opts.length co) (.slice ar p.rules.length cr) vt vs N C t p (.mk 3 ix ks) c e w') (fun e w' h => ⟨h.elim (fun h => by rw [hB] at h; cases h.1) (fun h => h.2.1), hout.out y e w' h⟩))
        go_wp2_with (first | (go_at_call 154; refine (must_yes _).mono ?_; rintro e w' ⟨rfl, rfl⟩) | (go_at_call 155; refine (hLN.out _).mono ?_; rintro e w7 ⟨rfl, hfin⟩))
        exact ⟨rfl, hfin⟩
      · have hLY := Lib.hid (fun y : Later A2 => (hLF.out y).mono (R' := fun e w' => e = .returned (.tuple #[]) ∧ CkEnd W A bc sx (.slice ap p.panes.length cp) (.slice ao p.opts.length co) (.slice ar p.rules.length cr) vt vs N C t p (.mk 3 ix ks) c e w') (fun e w' h => ⟨h.elim (fun h => h.2.1) (fun h => by rw [hB] at h; cases h.1), hout.out y e w' h⟩))
        go_wp2_with (first | (go_at_call 154; refine (must_yes _).mono ?_; rintro e w' ⟨rfl, rfl⟩) | (go_at_call 155; refine (hLY.out _).mono ?_; rintro e w7 ⟨rfl, hfin⟩))
        go_end0
        exact hfin
    by_cases h4 : kd = 4
    · subst h4
      have hT : Hid (okN p (.mk 4 ix ks) c = (decide (ks.length = 0) && leafB p 4 ix c)) := Lib.hid (okN_leaf (by decide))
      by_cases hz : ks.length = 0
      case neg =>
        have hno : Hid (okN p (.mk 4 ix ks) c = false) := Lib.hid (by rw [hT.out, decide_eq_false hz]; rfl)
        have hz2 : ((ks.length : Int) == 0) = false := by simp; intro h; exact hz (by simp [h])
        replace hz := Lib.hid hz
        go_wp2_with (go_at_call 154; refine (must_no _).mono ?_; rintro e w' ⟨rfl, rfl⟩)
        exact ⟨rfl, hpan.out _ hno.out⟩
      have hz2 : ((ks.length : Int) == 0) = true := by simp [hz]
      have hag : agN (.mk 4 ix ks) c = [] := by rw [agN_leaf (by decide)]; rfl
      have hsz : szN (.mk 4 ix ks) = 1 := by rw [szN, List.length_eq_zero_iff.1 hz]; rfl
      have hLF := Lib.hid (fun y : Later A2 => pleaf4 p _ _ _ vt (.slice ak ks.length ck) (.slice af c.length cf) vs t bc sx (N + 1) C ix c (hC2.below y.h) hp hcap hval ⟨_, _, _, rfl⟩ (hf2.cov (cov_below y.h)) hco)
      have hdec : Hid (okN p (.mk 4 ix ks) c = leafB p 4 ix c) := Lib.hid (by rw [hT.out, decide_eq_true hz, Bool.true_and])
      have hout : Hid (∀ (y : Later A2) (e : Ending) (w' : World), LeafEnd W y.w bc sx (.slice ap p.panes.length cp) (.slice ao p.opts.length co) (.slice ar p.rules.length cr) vt vs (N + 1) C t p 4 ix c e w' → CkEnd W A bc sx (.slice ap p.panes.length cp) (.slice ao p.opts.length co) (.slice ar p.rules.length cr) vt vs N C t p (.mk 4 ix ks) c e w') := Lib.hid (by
        rintro y e w' (⟨h1, h2, h3, h4⟩ | ⟨h1, h2⟩)
        · refine .inl ⟨by rw [hdec.out]; exact h1, h2, ?_, (hch2.trans (Chg.below y.h)).trans h4⟩
          rw [hag, hsz]
          exact h3
        · exact .inr ⟨by rw [hdec.out]; exact h1, h2.1, h2.2.1, (hch2.trans (Chg.below y.h)).trans h2.2.2⟩)
      replace hz := Lib.hid hz
      replace hag := Lib.hid hag
      replace hsz := Lib.hid hsz
      cases hB : leafB p 4 ix c
      · have hLN := Lib.hid (fun y : Later A2 => (hLF.out y).mono (R' := fun e w' => e = .panicked unlawful ∧ CkEnd W A bc sx (.slice ap p.panes.length cp) (.slice ao p.opts.length co) (.slice ar p.rules.length cr) vt vs N C t p (.mk 4 ix ks) c e w') (fun e w' h => ⟨h.elim (fun h => by rw [hB] at h; cases h.1) (fun h => h.2.1), hout.out y e w' h⟩))
        go_wp2_with (first | (go_at_call 154; refine (must_yes _).mono ?_; rintro e w' ⟨rfl, rfl⟩) | (go_at_call 155; refine (hLN.out _).mono ?_; rintro e w7 ⟨rfl, hfin⟩))
        exact ⟨rfl, hfin⟩
      · have hLY := Lib.hid (fun y : Later A2 => (hLF.out y).mono (R' := fun e w' => e = .returned (.tuple #[]) ∧ CkEnd W A bc sx (.slice ap p.panes.length cp) (.slice ao p.opts.length co) (.slice ar p.rules.length cr) vt vs N C t p (.mk 4 ix ks) c e w') (fun e w' h => ⟨h.elim (fun h => h.2.1) (fun h => by rw [hB] at h; cases h.1), hout.out y e w' h⟩))
        go_wp2_with (first | (go_at_call 154; refine (must_yes _).mono ?_; rintro e w' ⟨rfl, rfl⟩) | (go_at_call 155; refine (hLY.out _).mono ?_; rintro e w7 ⟨rfl, hfin⟩))
        go_end0
        exact hfin
    have hno : Hid (okN p (.mk kd ix ks) c = false) := Lib.hid (by rw [okN_leaf hk1]; unfold leafB; rw [if_neg h2, if_neg h3, if_neg h4]; simp)
    have g1 : (kd == 1) = false := by simp [hk1]
    have g2 : (kd == 2) = false := by simp [h2]
    have g3 : (kd == 3) = false := by simp [h3]
    have g4 : (kd == 4) = false := by simp [h4]
    replace hk1 := Lib.hid hk1
    replace h2 := Lib.hid h2
    replace h3 := Lib.hid h3
    replace h4 := Lib.hid h4
    go_wp2_with (go_at_call 154; refine (must_no _).mono ?_; rintro e w' ⟨rfl, rfl⟩)
    exact ⟨rfl, hpan.out _ hno.out⟩
end Go.Proofs.Ytmpkbolabdmkkaa
