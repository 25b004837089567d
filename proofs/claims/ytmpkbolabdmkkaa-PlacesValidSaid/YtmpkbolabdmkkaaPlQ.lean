/- CONTRACTS of places' agreeing: the function, and the iterator that it hands back. -/
import Derived.Test.YtmpkbolabdmkkaaPlP
import Derived.Test.YtmpkbolabdmkkaaPlJ
import Derived.Test.YtmpkbolabdmkkaaPlE
namespace Go.Proofs.Ytmpkbolabdmkkaa
open Go.RowKit

theorem below_then {W w : World} (h : Below W.heap.size W w) (y : Later w) : Below W.heap.size W y.w := h.trans (y.h.mono h.size)

theorem RdP.up {Wb : World} {bp : Nat} {v0 v1 v2 : Value} {A : World} (h : RdP Wb bp v0 v1 v2 A) (y : Later A) : RdP Wb bp v0 v1 v2 y.w :=
  ⟨by obtain ⟨z, rfl⟩ := h.later; exact ⟨z.up y, rfl⟩, Nat.lt_of_lt_of_le h.lt y.h.size, (y.h.cell (p := ⟨bp, 0, none⟩) h.lt).trans h.c0, (y.h.cell (p := ⟨bp, 1, none⟩) h.lt).trans h.c1, (y.h.cell (p := ⟨bp, 2, none⟩) h.lt).trans h.c2⟩
/-- what is kept from block B on, and what else is known, keeps a box there -/
theorem RdP.above {Wb : World} {bp B : Nat} {v0 v1 v2 : Value} {A C : World} (h : RdP Wb bp v0 v1 v2 A) (ha : Above B A C) (hB : B ≤ bp) (hl : ∃ y : Later Wb, C = y.w) : RdP Wb bp v0 v1 v2 C :=
  have hc : ∀ i, C.cell? ⟨bp, i, none⟩ = A.cell? ⟨bp, i, none⟩ := fun _ => World.cell?_of_block (ha.block bp hB h.lt)
  ⟨hl, Nat.lt_of_lt_of_le h.lt ha.size, (hc 0).trans h.c0, (hc 1).trans h.c1, (hc 2).trans h.c2⟩

/-- 'make([]int, n)', run -/
theorem makeInts_run (n : Nat) (hn : n ≤ 17592186044416) : ∃ cs : Array Value, (∀ w : World, (Instr.makeSlice 22 (.int .i64 n) (.int .i64 n)).run Try.prog w = .ok (.slice (some ⟨w.heap.size, 0, none⟩) n n) (w.alloc (.cells cs 3))) ∧
    ∀ w : World, IsInts (w.alloc (.cells cs 3)) (.slice (some ⟨w.heap.size, 0, none⟩) n n) (List.replicate n 0) := by
  obtain ⟨i0, hi, hz0, hz1, hz2⟩ := info_parts Try.info3
  refine ⟨madeCells (Value.int .i64 0).cells n, fun w => ?_, fun w => ?_⟩
  · have := run_make (P := Try.prog) w 22 3 i0 _ Try.underlying22 hi hz0 .i64 .i64 n n (by omega) (by omega) (by rw [hz2]; omega) (by omega)
    simpa [hz1] using this
  · have hown : (w.alloc (.cells (madeCells (Value.int .i64 0).cells n) 3)).ownsRow w.heap.size 3 1 (.slice (some ⟨w.heap.size, 0, none⟩) n n) n ((List.replicate n 0).map (Value.int .i64)) := by
      have := World.ownsRow_lit (base := w.heap.size) (e := 3) (size := 1) w (madeCells (Value.int .i64 0).cells n) n (Nat.le_refl _) (by unfold maxLen; omega) (by simp [size_madeCells])
      rw [show (madeCells (Value.int .i64 0).cells n).toList = (List.replicate n (0 : Int)).map (Value.int .i64) by rw [List.map_replicate]; exact toList_madeCells_one _ _] at this
      exact this
    have := isInts_of_owns hown hn
    simpa using this

/-- HOW agreeing ENDS: it hands back the iterator, with the problem's box -/
def EndsAgr (W : World) (v0 v1 v2 : Value) (e : Ending) (w' : World) : Prop :=
  ∃ bp, e = .returned (.func (.func 124) #[] #[.pointer (some ⟨bp, 0, none⟩)]) ∧ ∃ y : Later W, w' = y.w ∧ W.heap.size ≤ bp ∧ RdP W bp v0 v1 v2 y.w

set_option maxRecDepth 100000 in
set_option maxHeartbeats 1000000 in
theorem pagreeing {W : World} (x : Later W) (v0 v1 v2 : Value) : Calls Try.prog 67 #[.agg #[v0, v1, v2]] x.w (EndsAgr W v0 v1 v2) := by
  go_enter Try.func67, Try.ntmps67
  go_wp2
  go_ret
  obtain ⟨y, hy⟩ := x.alloc (.cells #[v0, v1, v2] 26)
  have hc : ∀ i, y.w.cell? ⟨x.w.heap.size, i, none⟩ = #[v0, v1, v2][i]? := fun i => by rw [← hy]; exact World.cell?_alloc_at _ 26 _ i rfl
  have hs : y.w.heap.size = x.w.heap.size + 1 := by rw [← hy]; simp
  exact ⟨_, rfl, y, hy, x.h.size, ⟨y, rfl⟩, by omega, hc 0, hc 1, hc 2⟩

set_option maxRecDepth 100000 in
set_option maxHeartbeats 1000000 in
theorem iterAgr {Wb W : World} (bp : Nat) (v0 v1 v2 : Value) (p : Prob) (hp : IsProb Wb v0 v1 v2 p) (hv : validP p = true) (hrd : RdP Wb bp v0 v1 v2 W) :
    IterL 124 #[.pointer (some ⟨bp, 0, none⟩)] (RdP Wb bp v0 v1 v2) (agr p) W := by
  intro l J Jx hJ hJx hY h0
  have hWb : Wb.heap.size ≤ W.heap.size := by obtain ⟨y, rfl⟩ := hrd.later; exact y.h.size
  have hbp := hrd.lt
  have h64 : p.panes.length ≤ 64 := valid_pane64 hv
  have hlen := valid_len hv
  refine callsIn_of_wp_marks (F := Fence.wide) (n := 0) Try.func124 rfl trivial ?_ rfl
  refine (wpIn_wide (n := 0)).2 ?_
  show Code.wp Try.prog _ _ { tmps := #[.func (.yield l) #[] #[], .pointer (some ⟨bp, 0, none⟩)] ++ _, defers := [] } W
  simp only [Try.ntmps124, List.size_toArray, List.length_cons, List.length_nil, Nat.reduceAdd, Nat.reduceSub, Array.replicate_succ, Array.replicate_zero, List.push_toArray, List.append_toArray, List.nil_append, List.cons_append]
  go_upto_region 1 with (fail)
  obtain ⟨W1, hW1⟩ : ∃ W1, W.alloc (Obj.cells #[Value.func (Fn.yield l) #[] #[]] 89) = W1 := ⟨_, rfl⟩
  have hb1 : Below W.heap.size W W1 := hW1 ▸ below_alloc1 _ _
  have hs1 : W1.heap.size = W.heap.size + 1 := by rw [← hW1]; simp
  have cy : W1.cell? ⟨W.heap.size, 0, none⟩ = some (Value.func (Fn.yield l) #[] #[]) := by rw [← hW1]; simp
  have he1 := Eqb.below hb1 (Nat.le_refl _)
  have hrd1 := hrd.eqb he1 hWb hbp
  have hJ1 := hJ _ _ _ h0 he1
  rw [hW1]
  clear hW1
  replace hs1 := Lib.hid hs1
  obtain ⟨ap, cp, rfl, lp, _⟩ := hp.panes.opened
  obtain ⟨ao, co, rfl, lo, _⟩ := hp.opts.opened
  obtain ⟨ar, cr, rfl, lr, _⟩ := hp.rules.opened
  obtain ⟨cs, hmk, hz⟩ := makeInts_run p.panes.length (by omega)
  have hbp1 : bp < W1.heap.size := hrd1.lt
  have p0 := Later.cell hbp1 hrd1.c0
  have p1 := Later.cell hbp1 hrd1.c1
  have p2 := Later.cell hbp1 hrd1.c2
  have keep : ∀ w' : World, Below W1.heap.size W1 w' → Below W1.heap.size W1 w' ∧ w'.cell? ⟨bp, 0, none⟩ = some (.slice ap p.panes.length cp) ∧ w'.cell? ⟨bp, 1, none⟩ = some (.slice ao p.opts.length co) ∧ w'.cell? ⟨bp, 2, none⟩ = some (.slice ar p.rules.length cr) := fun w' h => ⟨h, p0 ⟨w', h⟩, p1 ⟨w', h⟩, p2 ⟨w', h⟩⟩
  have hz1 : IsInts (W1.alloc (.cells cs 3)).drew (.slice (some ⟨W1.heap.size, 0, none⟩) p.panes.length p.panes.length) (List.replicate p.panes.length 0) := (hz W1).below (Below.drew (Below.refl _ _))
  have hbz : Below W1.heap.size W1 (W1.alloc (.cells cs 3)).drew := Below.drew (Below.alloc (Below.refl _ _) (Nat.le_refl _) _)
  replace hJ := Lib.hid hJ
  replace hJx := Lib.hid hJx
  replace hY := Lib.hid hY
  replace hlen := Lib.hid hlen
  clear h0 hrd
  go_region_held3 (fun w' => Below W1.heap.size W1 w' ∧ w'.cell? ⟨bp, 0, none⟩ = some (.slice ap p.panes.length cp) ∧ w'.cell? ⟨bp, 1, none⟩ = some (.slice ao p.opts.length co) ∧ w'.cell? ⟨bp, 2, none⟩ = some (.slice ar p.rules.length cr)) ((refine keep _ ?_; first | exact Below.refl _ _ | exact hbz | exact below_then hbz _ | exact Below.drew (Below.refl _ _) | exact Below.alloc (Below.refl _ _) (Nat.le_refl _) _))
    (first | (go_at_call 110; refine (pfillings (Later.now (W1.alloc (.cells cs 3)).drew) _ _ _ _ (List.replicate p.panes.length 0) hz1).mono ?_; rintro e w' ⟨bq, bf, rfl, y, rfl, hq1, hq2, hq3, hq4, hq5⟩))
  rename_i hH
  have hsW : W.heap.size < y.w.heap.size := by have h1 := hH.1.size; have h2 := hs1.out; omega
  have hew : Eqb W.heap.size W1 y.w := Eqb.below (hH.1.mono (by have := hs1.out; omega)) (by have := hs1.out; omega)
  have hJw := hJ.out _ _ _ hJ1 hew
  have hRw := hrd1.eqb hew hWb hbp
  have hcw : y.w.cell? ⟨W.heap.size, 0, none⟩ = some (Value.func (Fn.yield l) #[] #[]) := (hH.1.cell (p := ⟨W.heap.size, 0, none⟩) (by show W.heap.size < _; have := hs1.out; omega)).trans cy
  have hRq : RdP Wb bq (.slice ap p.panes.length cp) (.slice ao p.opts.length co) (.slice ar p.rules.length cr) y.w := ⟨hRw.later, hq3.lt, hq3.c0, hq3.c1, hq3.c2⟩
  have hI0 : IsInts y.w (.slice (some ⟨W1.heap.size, 0, none⟩) p.panes.length p.panes.length) (fill p 0) := by rw [fill_0, hlen.out]; exact hz1.below y.h
  have hsz : W.heap.size ≤ bq := by have h1 := hs1.out; have : W1.heap.size ≤ (W1.alloc (.cells cs 3)).drew.heap.size := hbz.size; omega
  have hbqs := hq3.lt
  obtain ⟨w, hw⟩ : ∃ w, y.w = w := ⟨_, rfl⟩
  rw [hw] at hsW hew hJw hRw hcw hRq hI0 hq4 hq5 hbqs ⊢
  clear hw hH hq3 hq1 hq2 hz1 hbz keep p0 p1 p2 hbp1 hz hmk hrd1 hJ1 he1 cy hs1 hb1 hew y
  go_wp2
  refine (wpIn_wide (n := 0)).1 ?_
  refine' wpIn_rangeL (gf := 146) rfl (enters_of Try.func146 (by kernel_rfl) rfl) rfl (RdP Wb bq (.slice ap p.panes.length cp) (.slice ao p.opts.length co) (.slice ar p.rules.length cr)) (fills p) ?iter
    (fun k A => J (agrTo p k).length A ∧ RdP Wb bp (.slice ap p.panes.length cp) (.slice ao p.opts.length co) (.slice ar p.rules.length cr) A ∧ A.cell? ⟨W.heap.size, 0, none⟩ = some (Value.func (Fn.yield l) #[] #[]))
    (fun c A => c = .ret ∧ Jx A) ?hI ?hIx ?hRd ⟨hJw, hRw, hcw⟩ hRq _ ?assign ?body ?done ?stop
  case assign =>
    intro l v W K hK
    have hS := @Oper.semAt_some
    gi_wp2
    exact hK
  case iter =>
    intro W2 hb2 hr2
    have := iterFills bq bf _ _ _ _ p 0 hp hv (total_pos hv) hr2 (hI0.below hb2) (Nat.lt_of_lt_of_le hq4 hb2.size) ((hb2.cell (p := ⟨bf, 0, none⟩) hq4).trans hq5)
    rwa [List.drop_zero] at this
  case hI => exact fun k A B ⟨h1, h2, h3⟩ he => ⟨hJ.out _ _ _ h1 (he.mono (by omega)), h2.eqb he (by omega) (by omega), (he.cell (p := ⟨W.heap.size, 0, none⟩) hsW).trans h3⟩
  case hIx => exact fun c A B ⟨h1, h2⟩ he => ⟨h1, hJx.out _ _ h2 (he.mono (by omega))⟩
  case hRd => exact fun A B h he => h.eqb he (by omega) hbqs
  case stop =>
    rintro D c A hD ⟨rfl, hx⟩ hdf
    refine (wpIn_wide (n := 0)).2 ?_
    go_wp2
    exact leaves_mark hdf (results_none rfl _ _ _) ⟨⟨_, rfl⟩, .inr (hJx.out _ _ hx (Calm.putObj hdf rfl (by omega) _))⟩
  case done =>
    rintro D A hD ⟨hj, _, _⟩ hdf
    rw [agrTo_all] at hj
    go_wp2
    exact leaves_mark hdf (results_none rfl _ _ _) ⟨⟨_, rfl⟩, .inl (hJ.out _ _ _ hj (Eqb.putObj (by have := (Array.getElem?_eq_some_iff.1 hdf).1; omega) (by omega) _))⟩
  case body =>
    rintro l2 k v A hk ⟨hj, hR1, hcA⟩ hR2 hvA
    generalize hQ : roundEnd w.heap.size _ _ _ A = Q
    replace hQ := Lib.hid hQ
    rw [fills_len] at hk
    rw [nth_fills hk] at hvA
    have hbA : Below Wb.heap.size Wb A := by obtain ⟨y, rfl⟩ := hR1.later; exact y.h
    have hAs : bp < A.heap.size := hR1.lt
    have hWA : W.heap.size < A.heap.size := by have := hR2.lt; omega
    have hup : ∀ (k : Nat) (y : Later A), J k A → J k y.w := fun k y h => hJ.out _ _ _ h (Eqb.below (y.h.mono (by omega)) (by omega))
    have a0 := Later.cell hAs hR1.c0
    have a1 := Later.cell hAs hR1.c1
    have a2 := Later.cell hAs hR1.c2
    replace hcA := Later.cell hWA hcA
    have hsY := Later.size hWA
    replace hup := Lib.hid hup
    have hC := Lib.hid (fun y : Later A => pagrees y _ _ _ _ p (fill p k) (hp.below hbA) hvA hv (fill_B hv k))
    have hS := @Oper.semAt_some
    have hF : ∀ f, Fence.wide.fn f = True := fun _ => rfl
    have hD : Fence.wide.depth = none := rfl
    replace hvA := Lib.hid hvA
    obtain ⟨av, cv, rfl, _, _⟩ := hvA.out.opened
    replace hR1 := Lib.hid hR1
    replace hR2 := Lib.hid hR2
    replace hj := Lib.hid hj
    replace hvA := Lib.hid hvA.out
    have hk' : k < (fills p).length := by rw [fills_len]; exact hk
    cases hA : agreesB p (fill p k)
    · have hS1 := Lib.hid (agrTo_no hk' (by rw [nth_fills hk]; exact hA))
      show Code.wpIn _ _ _ _ _ _ (Later.now A).w
      gi_wp2_with (gi_at_call 101; refine (CallsIn.inRound l2 (callsIn_wide.2 (hC.out _))).mono ?_; rintro e w' ⟨rfl, y, rfl⟩)
      all_goals
        rw [← hQ.out]
        exact ⟨Above.below y.h, hR2.out.up y, by rw [hS1.out]; exact hup.out _ y hj.out, hR1.out.up y, hcA y⟩
    · have hS1 := Lib.hid (agrTo_yes hk' (by rw [nth_fills hk]; exact hA))
      obtain ⟨hag1, hag2⟩ := agr_at hk' (by rw [nth_fills hk]; exact hA)
      have hYk := Lib.hid (fun y : Later A => hY.out _ _ _ hag1 (hup.out _ y hj.out) (hR1.out.up y) (by rw [hag2, nth_fills hk]; exact hvA.out.below y.h))
      clear hag1 hag2
      show Code.wpIn _ _ _ _ _ _ (Later.now A).w
      gi_wp2_with (gi_at_call 101; refine (CallsIn.inRound l2 (callsIn_wide.2 (hC.out _))).mono ?_; rintro e w' ⟨rfl, y, rfl⟩; obtain ⟨fn, tmps, asg, bd, hy, hRound⟩ := hYk.out y)
      refine (round_in l2 hRound).mono ?_
      rintro e A1 (⟨rfl, hJ1, hR3, hA1⟩ | ⟨rfl, hx1, hA1⟩)
      · gi_wp2
        rw [← hQ.out]
        refine ⟨(Above.below y.h).trans (hA1.mono (by omega)), (hR2.out.up y).above hA1 hsz hR3.later, ?_, hR3, (World.cell?_of_block (hA1.block W.heap.size (Nat.le_refl _) (hsY y))).trans (hcA y)⟩
        rw [hS1.out, List.length_append]; exact hJ1
      · gi_wp2
        rw [← hQ.out]
        exact ⟨(Above.below y.h).trans (hA1.mono (by omega)), rfl, hx1⟩
end Go.Proofs.Ytmpkbolabdmkkaa
