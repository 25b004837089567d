/- CONTRACTS of places' Count and First. -/
import Derived.Test.YtmpkbolabdmkkaaPlQ
import Derived.Test.YtmpkbolabdmkkaaPlO
namespace Go.Proofs.Ytmpkbolabdmkkaa
open Go.RowKit

theorem leaves_none {fn : Func} {tmps : Array Value} {R : Ending → World → Prop} {W : World} {v : Value} (hr : (results fn tmps).run Try.prog W = .ok v W) (hR : R (.returned v) W) :
    LeavesInM Fence.wide 0 Try.prog fn tmps R [] .returning W := ⟨v, hr, hR⟩
theorem RdP.setCell {Wb : World} {bp b i : Nat} {v0 v1 v2 : Value} {A : World} (h : RdP Wb bp v0 v1 v2 A) (hb : Wb.heap.size ≤ b) (hne : b ≠ bp) (u : Value) : RdP Wb bp v0 v1 v2 (A.setCell ⟨b, i, none⟩ u) :=
  have hc : ∀ j, (A.setCell ⟨b, i, none⟩ u).cell? ⟨bp, j, none⟩ = A.cell? ⟨bp, j, none⟩ := fun _ => World.cell?_setCell_other _ _ _ _ (fun e => hne (by cases e; rfl))
  ⟨by obtain ⟨z, rfl⟩ := h.later; exact ⟨⟨_, z.h.setCell (p := ⟨b, i, none⟩) hb u⟩, rfl⟩, by simpa [World.setCell] using h.lt, (hc 0).trans h.c0, (hc 1).trans h.c1, (hc 2).trans h.c2⟩

set_option maxRecDepth 100000 in
set_option maxHeartbeats 1000000 in
theorem pCount {W : World} (x : Later W) (v0 v1 v2 : Value) (p : Prob) (hp : IsProb W v0 v1 v2 p) :
    Calls Try.prog 28 #[.agg #[v0, v1, v2]] x.w (Ends W (.tuple #[.int .i64 (countV p), .int .i64 (largeE p)])) := by
  refine (callsIn_wide (n := 0)).1 (callsIn_of_wp_marks (F := Fence.wide) (n := 0) Try.func28 rfl trivial ?_ rfl)
  refine (wpIn_wide (n := 0)).2 ?_
  simp only [Try.ntmps28, List.size_toArray, List.length_cons, List.length_nil, Nat.reduceAdd, Nat.reduceSub, Array.replicate_succ, Array.replicate_zero, List.push_toArray, List.append_toArray, List.nil_append, List.cons_append]
  go_upto_region 1 with (fail)
  obtain ⟨W1, x1, e1, hb1, s1, p0, p1, p2⟩ := enter3 x v0 v1 v2 26
  rw [e1]; clear e1
  have HP := Lib.hid (hp.below hb1)
  obtain ⟨ap, cp, rfl, lp, _⟩ := hp.panes.opened
  obtain ⟨ao, co, rfl, lo, _⟩ := hp.opts.opened
  obtain ⟨ar, cr, rfl, lr, _⟩ := hp.rules.opened
  clear hp
  by_cases h0 : largeE p = 0
  · have hb0 : (askE p true != 0) = false := by rw [askE_true]; simp [h0]
    obtain ⟨hv, ht⟩ := largeE_0.1 h0
    have hle := agr_len p
    have hres : Hid (countV p = (agr p).length ∧ largeE p = 0) := Lib.hid ⟨by simp [countV, h0], h0⟩
    clear h0
    go_wp2_with (first | (go_at_call 65; refine (pasked x1 _ _ _ p true HP.out).mono ?_; rintro e w' ⟨rfl, x1, rfl⟩) | (go_at_call 67; obtain ⟨W2, hW2⟩ : ∃ W2, x1.w.alloc (.cells #[.int .i64 0] 3) = W2 := ⟨_, rfl⟩; rw [hW2]; refine (pagreeing (Later.now W2) _ _ _).mono ?_; rintro e w' ⟨bq, rfl, y, rfl, hq1, hq2⟩))
    have hb2 : Below W1.heap.size W1 W2 := hW2 ▸ x1.h.alloc x1.h.size _
    have hs2 : W2.heap.size = x1.w.heap.size + 1 := by rw [← hW2]; simp
    have hc2 : W2.cell? ⟨x1.w.heap.size, 0, none⟩ = some (.int .i64 0) := by rw [← hW2]; simp
    have hf2 : W2.frozen? ⟨x1.w.heap.size, 0, none⟩ = false := by rw [← hW2]; simp
    obtain ⟨b, hb⟩ : ∃ b, x1.w.heap.size = b := ⟨_, rfl⟩
    have hWb : W1.heap.size ≤ b := hb ▸ x1.h.size
    rw [hb] at hs2 hc2 hf2 ⊢
    have hby : b < y.w.heap.size := by have := y.h.size; omega
    have hcy : y.w.cell? ⟨b, 0, none⟩ = some (.int .i64 0) := (y.h.cell (p := ⟨b, 0, none⟩) (by show b < _; omega)).trans hc2
    have hfy : y.w.frozen? ⟨b, 0, none⟩ = false := (y.h.frozen (p := ⟨b, 0, none⟩) (by show b < _; omega)).trans hf2
    have hly : ∃ z : Later W1, y.w = z.w := ⟨⟨y.w, below_then hb2 y⟩, rfl⟩
    have hq3 : RdP W1 bq (.slice ap p.panes.length cp) (.slice ao p.opts.length co) (.slice ar p.rules.length cr) y.w := ⟨hly, hq2.lt, hq2.c0, hq2.c1, hq2.c2⟩
    obtain ⟨w, hw⟩ : ∃ w, y.w = w := ⟨_, rfl⟩
    rw [hw] at hby hcy hfy hly hq3 ⊢
    have hbq : b < bq := by omega
    clear hq2 hw y hf2 hc2 hs2 hb2 hW2 hb hq1 x1
    refine (wpIn_wide (n := 0)).1 ?_
    refine' wpIn_rangeL (gf := 124) rfl (enters_of Try.func124 (by kernel_rfl) rfl) rfl (RdP W1 bq (.slice ap p.panes.length cp) (.slice ao p.opts.length co) (.slice ar p.rules.length cr)) (agr p) ?iter
      (fun k A => (∃ z : Later W1, A = z.w) ∧ b < A.heap.size ∧ A.cell? ⟨b, 0, none⟩ = some (.int .i64 k) ∧ A.frozen? ⟨b, 0, none⟩ = false)
      (fun _ _ => False) ?hI ?hIx ?hRd ⟨hly, hby, hcy, hfy⟩ hq3 _ ?assign ?body ?done ?stop
    case assign =>
      intro l v W K hK
      have hS := @Oper.semAt_some
      gi_wp2
      exact hK
    case iter => exact fun W2 hb2 hr2 => iterAgr bq _ _ _ p HP.out hv hr2
    case hI => exact fun k A B ⟨h1, h2, h3, h4⟩ he => ⟨he.later (by omega) h1, Nat.lt_of_lt_of_le hby he.size, (he.cell (p := ⟨b, 0, none⟩) hby).trans h3, (he.frozen (p := ⟨b, 0, none⟩) hby).trans h4⟩
    case hIx => exact fun c A B h he => h
    case hRd => exact fun A B h he => h.eqb he (by omega) hq3.lt
    case stop => exact fun D c A hD h hdf => h.elim
    case done =>
      rintro D A hD ⟨hl, _, hc, _⟩ hdf
      go_wp2
      refine leaves_mark hdf (results_tmp2 rfl _ _ _) ?_
      obtain ⟨z, rfl⟩ := hl
      obtain ⟨z', hz'⟩ := z.putObj (l := D) (by omega) (.deferred none)
      rw [hz']
      exact ⟨by rw [hres.out.1, hres.out.2]; rfl, z'.down hb1⟩
    case body =>
      rintro l2 k v A hk ⟨⟨z, rfl⟩, hbz, hc, hf⟩ hR hvA
      generalize hQ : roundEnd w.heap.size _ _ _ z.w = Q
      replace hQ := Lib.hid hQ
      have hS := @Oper.semAt_some
      have hF : ∀ f, Fence.wide.fn f = True := fun _ => rfl
      have hD : Fence.wide.depth = none := rfl
      have hk1 : k < 65536 := by omega
      gi_wp2
      rw [← hQ.out]
      refine ⟨(Above.refl _ _).setCell (p := ⟨b, 0, none⟩) hby _, hR.setCell hWb (by omega) _, ⟨⟨_, z.h.setCell (p := ⟨b, 0, none⟩) hWb _⟩, rfl⟩, by simpa [World.setCell] using hbz, ?_, ?_⟩
      · exact (World.cell?_setCell_same _ _ _ hc).trans rfl
      · exact (World.frozen?_setCell _ _ _ _).trans hf
  · have hb0 : (askE p true != 0) = true := by rw [askE_true]; simp [h0]
    have hres : Hid (countV p = 0) := Lib.hid (by simp [countV, h0])
    clear h0
    go_wp2_with (go_at_call 65; refine (pasked x1 _ _ _ p true HP.out).mono ?_; rintro e w' ⟨rfl, x1, rfl⟩)
    refine leaves_none (results_tmp2 rfl _ _ _) ?_
    exact ⟨by rw [hres.out, ← askE_true]; rfl, x1.down hb1⟩

/-- a function's two results, in boxes -/
theorem results_cell2 {fn : Func} {b2 b3 : Nat} {ty ty' : TypeId} {tmps : Array Value} {w : World} {v v' : Value} (p u : Tmp) (h : fn.results = #[.cell p ty, .cell u ty']) (hp : tmps.getD p undef = .pointer (some ⟨b2, 0, none⟩)) (hu : tmps.getD u undef = .pointer (some ⟨b3, 0, none⟩))
    (h2 : (loadVar ty ⟨b2, 0, none⟩).run Try.prog w = .ok v w) (h3 : (loadVar ty' ⟨b3, 0, none⟩).run Try.prog w = .ok v' w) : (results fn tmps).run Try.prog w = .ok (.tuple #[v, v']) w := by
  rw [Array.getD_eq_getD_getElem?] at hp hu
  simp only [results, h]
  simp [Sem.run_bind, Result.andThen, hp, hu, asAddr, h2, h3]
theorem loadVar_cell {ty : TypeId} (h22 : ty = 22 ∨ ty = 29) {b : Nat} {w : World} {v : Value} (hc : w.cell? ⟨b, 0, none⟩ = some v) : (loadVar ty ⟨b, 0, none⟩).run Try.prog w = .ok v w := by
  rcases h22 with rfl | rfl <;> go_simp

theorem two_set {A : World} {b2 b3 : Nat} {u2 u3 : Value} (hne : b2 ≠ b3) (h2 : A.cell? ⟨b2, 0, none⟩ = some u2) (h3 : A.cell? ⟨b3, 0, none⟩ = some u3) (v v' : Value) :
    ((A.setCell ⟨b2, 0, none⟩ v).setCell ⟨b3, 0, none⟩ v').cell? ⟨b2, 0, none⟩ = some v ∧ ((A.setCell ⟨b2, 0, none⟩ v).setCell ⟨b3, 0, none⟩ v').cell? ⟨b3, 0, none⟩ = some v' := by
  have e1 : (⟨b3, 0, none⟩ : Addr) ≠ ⟨b2, 0, none⟩ := fun h => hne (by cases h; rfl)
  refine ⟨(World.cell?_setCell_other _ _ _ _ e1).trans (World.cell?_setCell_same _ _ _ h2), World.cell?_setCell_same (u := u3) _ _ _ ?_⟩
  exact (World.cell?_setCell_other _ _ _ _ (Ne.symm e1)).trans h3
theorem Later.set {W : World} (x : Later W) {b : Nat} (hb : W.heap.size ≤ b) (v : Value) : ∃ y : Later W, x.w.setCell ⟨b, 0, none⟩ v = y.w := ⟨⟨_, x.h.setCell (p := ⟨b, 0, none⟩) hb v⟩, rfl⟩
theorem isInts_nil (w : World) : IsInts w (.slice none 0 0) [] := ⟨none, 0, rfl, by simp, fun _ h => absurd h (Nat.not_lt_zero _)⟩
theorem heap_two {A : World} {b2 b3 D : Nat} {v v' : Value} (h2 : b2 < D) (h3 : b3 < D) : ((A.setCell ⟨b2, 0, none⟩ v).setCell ⟨b3, 0, none⟩ v').heap[D]? = A.heap[D]? :=
  (Below.heap_setCell _ ⟨b3, 0, none⟩ _ D (by show D ≠ b3; omega)).trans (Below.heap_setCell _ ⟨b2, 0, none⟩ _ D (by show D ≠ b2; omega))

theorem owns_two {A : World} {B b2 b3 : Nat} {u u' v : Value} {n : Nat} {xs : List Value} (h : A.ownsRow B 3 1 v n xs) (h2 : b2 < B) (h3 : b3 < B) : ((A.setCell ⟨b2, 0, none⟩ u).setCell ⟨b3, 0, none⟩ u').ownsRow B 3 1 v n xs := by
  have hne : ∀ b, b < B → v.ownBlock ≠ some b := fun b hb e => by have := (h.lt b e).1; omega
  exact (h.kept (grownBy_setCell' _ b2 _) (.inr (hne b2 h2))).kept (grownBy_setCell' _ b3 _) (.inr (hne b3 h3))

/-- a problem's box, and behind it two results' boxes -/
theorem enterR {W : World} (x : Later W) (v0 v1 v2 u2 u3 : Value) (T T2 T3 : TypeId) : ∃ W1 W2 : World, ((x.w.alloc (.cells #[v0, v1, v2] T)).alloc (.cells #[u2] T2)).alloc (.cells #[u3] T3) = W2 ∧ Below W.heap.size W W1 ∧ Below W1.heap.size W1 W2 ∧
    (W1.heap.size = x.w.heap.size + 1 ∧ W2.heap.size = x.w.heap.size + 3) ∧ (∀ y : Later W1, x.w.heap.size < y.w.heap.size) ∧
    (∀ y : Later W1, y.w.cell? ⟨x.w.heap.size, 0, none⟩ = some v0) ∧ (∀ y : Later W1, y.w.cell? ⟨x.w.heap.size, 1, none⟩ = some v1) ∧ (∀ y : Later W1, y.w.cell? ⟨x.w.heap.size, 2, none⟩ = some v2) ∧
    (∀ y : Later W2, y.w.cell? ⟨x.w.heap.size + 1, 0, none⟩ = some u2 ∧ y.w.frozen? ⟨x.w.heap.size + 1, 0, none⟩ = false) ∧ ∀ y : Later W2, y.w.cell? ⟨x.w.heap.size + 1 + 1, 0, none⟩ = some u3 ∧ y.w.frozen? ⟨x.w.heap.size + 1 + 1, 0, none⟩ = false := by
  obtain ⟨W1, x1, e1, hb1, s1, p0, p1, p2⟩ := enter3 x v0 v1 v2 T
  have hs1 : x1.w.heap.size = x.w.heap.size + 1 := by rw [← e1]; simp
  have hsW : (x.w.alloc (.cells #[v0, v1, v2] T)).heap.size = x.w.heap.size + 1 := by simp
  refine ⟨x.w.alloc (.cells #[v0, v1, v2] T), _, rfl, x.h.alloc x.h.size _, ((Below.refl _ _).alloc (Nat.le_refl _) _).alloc (by simp) _, ⟨hsW, by simp⟩, ?_, ?_, ?_, ?_, ?_, ?_⟩
  · exact Later.size (by rw [hsW]; omega)
  · exact Later.cell (by rw [hsW]; omega) (by rw [e1]; exact p0 x1)
  · exact Later.cell (by rw [hsW]; omega) (by rw [e1]; exact p1 x1)
  · exact Later.cell (by rw [hsW]; omega) (by rw [e1]; exact p2 x1)
  · refine fun y => ⟨Later.cell (by simp) ?_ y, Later.frozen (by simp) ?_ y⟩
    · exact (World.cell?_alloc_past _ _ 0 (by simp)).trans (World.cell?_alloc_at _ T2 _ 0 hsW.symm)
    · exact (World.frozen?_alloc_past _ _ 0 (by simp)).trans (World.frozen?_alloc_at _ T2 _ 0 hsW.symm)
  · refine fun y => ⟨Later.cell (by simp) ?_ y, Later.frozen (by simp) ?_ y⟩
    · exact World.cell?_alloc_at _ T3 _ 0 (by simp)
    · exact World.frozen?_alloc_at _ T3 _ 0 (by simp)

set_option maxRecDepth 100000 in
set_option maxHeartbeats 1000000 in
theorem pFirst {W : World} (x : Later W) (v0 v1 v2 : Value) (p : Prob) (hp : IsProb W v0 v1 v2 p) :
    Calls Try.prog 30 #[.agg #[v0, v1, v2]] x.w (EndsIntsE W (firstL p) (firstE p)) := by
  refine (callsIn_wide (n := 0)).1 (callsIn_of_wp_marks (F := Fence.wide) (n := 0) Try.func30 rfl trivial ?_ rfl)
  refine (wpIn_wide (n := 0)).2 ?_
  simp only [Try.ntmps30, List.size_toArray, List.length_cons, List.length_nil, Nat.reduceAdd, Nat.reduceSub, Array.replicate_succ, Array.replicate_zero, List.push_toArray, List.append_toArray, List.nil_append, List.cons_append]
  go_upto_region 1 with (fail)
  obtain ⟨W1, W2, e2, hb1, hb2, ⟨hs1, hs2⟩, s1, p0, p1, p2, c2, c3⟩ := enterR x v0 v1 v2 (.slice none 0 0) (.int .i64 0) 26 22 29
  rw [e2]; clear e2
  have c2a := fun y => (c2 y).1
  have c2b := fun y => (c2 y).2
  have c3a := fun y => (c3 y).1
  have c3b := fun y => (c3 y).2
  clear c2 c3
  replace s1 := Later.sizes hb2 s1
  replace p0 := Later.cells hb2 p0
  replace p1 := Later.cells hb2 p1
  replace p2 := Later.cells hb2 p2
  have HP1 := Lib.hid (hp.below hb1)
  have HP := Lib.hid (HP1.out.below hb2)
  obtain ⟨ap, cp, rfl, lp, _⟩ := hp.panes.opened
  obtain ⟨ao, co, rfl, lo, _⟩ := hp.opts.opened
  obtain ⟨ar, cr, rfl, lr, _⟩ := hp.rules.opened
  have hb12 := hb1.trans (hb2.mono hb1.size)
  have hWx := x.h.size
  replace hs1 := Lib.hid hs1
  replace hs2 := Lib.hid hs2
  obtain ⟨b2, hB2⟩ : ∃ b2, x.w.heap.size + 1 = b2 := ⟨_, rfl⟩
  rw [hB2] at c2a c2b c3a c3b ⊢
  have hne : (⟨b2, 0, none⟩ : Addr) ≠ ⟨b2 + 1, 0, none⟩ := by simp
  replace hB2 := Lib.hid hB2
  clear hp
  show Code.wp _ _ _ _ (Later.now W2).w
  by_cases h0 : largeE p = 0
  case neg =>
    have hb0 : (askE p true != 0) = true := by rw [askE_true]; simp [h0]
    have hres : Hid (firstE p = askE p true ∧ firstL p = []) := Lib.hid (by rw [askE_true]; have h1 : firstE p = largeE p := by simp [firstE, h0]
                                                                            exact ⟨h1, by simp [firstL, h1, h0]⟩)
    clear h0
    go_wp2_with (go_at_call 65; refine (pasked _ _ _ _ p true HP.out).mono ?_; rintro e w' ⟨rfl, x1, rfl⟩)
    obtain ⟨t2, t3⟩ := two_set (Nat.ne_of_lt (Nat.lt_succ_self b2)) (c2a x1) (c3a x1) (.slice none 0 0) (.int .i64 (askE p true))
    refine leaves_none (results_cell2 2 3 rfl rfl rfl (loadVar_cell (.inl rfl) t2) (loadVar_cell (.inr rfl) t3)) ?_
    obtain ⟨z, hz⟩ := x1.down hb12
    rw [hz]
    obtain ⟨z1, hz1⟩ := z.set (b := b2) (by have := hB2.out; omega) (.slice none 0 0)
    obtain ⟨z2, hz2⟩ := z1.set (b := b2 + 1) (by have := hB2.out; omega) (.int .i64 (askE p true))
    rw [hz1, hz2]
    exact ⟨_, by rw [hres.out.1], z2, rfl, by rw [hres.out.2]; exact isInts_nil _⟩
  have hb0 : (askE p true != 0) = false := by rw [askE_true]; simp [h0]
  obtain ⟨hv, ht⟩ := largeE_0.1 h0
  have hFE : Hid (firstE p = if (agr p).length = 0 then 72 else 0) := Lib.hid (by simp [firstE, h0])
  clear h0
  go_wp2_with (first | (go_at_call 65; refine (pasked _ _ _ _ p true HP.out).mono ?_; rintro e w' ⟨rfl, x1, rfl⟩) | (go_at_call 67; refine (pagreeing (Later.now x1.w) _ _ _).mono ?_; rintro e w' ⟨bq, rfl, y, rfl, hq1, hq2⟩))
  have hsx : b2 + 1 < x1.w.heap.size := by have h1 := x1.h.size; have h2 := hs2.out; have h3 := hB2.out; omega
  have hW1b : W1.heap.size ≤ b2 := by have h2 := hs1.out; have h3 := hB2.out; omega
  obtain ⟨xx, hxx⟩ := x1.step y.h
  have hby : b2 + 1 < y.w.heap.size := by have := y.h.size; change x1.w.heap.size ≤ _ at this; omega
  have d2a := c2a xx
  have d2b := c2b xx
  have d3a := c3a xx
  have d3b := c3b xx
  rw [← hxx] at d2a d2b d3a d3b
  have hly : ∃ z : Later W1, y.w = z.w := by obtain ⟨z, hz⟩ := xx.down hb2; exact ⟨z, hxx.trans hz⟩
  have hq3 : RdP W1 bq (.slice ap p.panes.length cp) (.slice ao p.opts.length co) (.slice ar p.rules.length cr) y.w := ⟨hly, hq2.lt, hq2.c0, hq2.c1, hq2.c2⟩
  change x1.w.heap.size ≤ bq at hq1
  have hbq : b2 + 1 < bq := by omega
  obtain ⟨w, hw⟩ : ∃ w, y.w = w := ⟨_, rfl⟩
  rw [hw] at hby d2a d2b d3a d3b hly hq3 ⊢
  clear hq2 hw hxx xx y hq1 hsx c2a c2b c3a c3b
  refine (wpIn_wide (n := 0)).1 ?_
  refine' wpIn_rangeL (gf := 124) rfl (enters_of Try.func124 (by kernel_rfl) rfl) rfl (RdP W1 bq (.slice ap p.panes.length cp) (.slice ao p.opts.length co) (.slice ar p.rules.length cr)) (agr p) ?iter
    (fun k A => k = 0 ∧ (∃ z : Later W1, A = z.w) ∧ (A.cell? ⟨b2, 0, none⟩ = some (.slice none 0 0) ∧ A.frozen? ⟨b2, 0, none⟩ = false) ∧ (A.cell? ⟨b2 + 1, 0, none⟩ = some (.int .i64 0) ∧ A.frozen? ⟨b2 + 1, 0, none⟩ = false))
    (fun c A => c = .ret ∧ (∃ z : Later W1, A = z.w) ∧ ∃ v, A.cell? ⟨b2, 0, none⟩ = some v ∧ A.cell? ⟨b2 + 1, 0, none⟩ = some (.int .i64 0) ∧ IsInts A v (nth (agr p) 0) ∧ 0 < (agr p).length) ?hI ?hIx ?hRd ⟨rfl, hly, ⟨d2a, d2b⟩, d3a, d3b⟩ hq3 _ ?assign ?body ?done ?stop
  case assign =>
    intro l v W K hK
    have hS := @Oper.semAt_some
    gi_wp2
    exact hK
  case iter => exact fun W2 hb2 hr2 => iterAgr bq _ _ _ p HP1.out hv hr2
  case hI => exact fun k A B ⟨h1, h2, ⟨h3, h4⟩, h5, h6⟩ he => ⟨h1, he.later (by omega) h2, ⟨(he.cell (p := ⟨b2, 0, none⟩) (by show b2 < _; omega)).trans h3, (he.frozen (p := ⟨b2, 0, none⟩) (by show b2 < _; omega)).trans h4⟩, (he.cell (p := ⟨b2 + 1, 0, none⟩) hby).trans h5, (he.frozen (p := ⟨b2 + 1, 0, none⟩) hby).trans h6⟩
  case hIx => exact fun c A B ⟨h1, h2, v, h3, h4, h5, h6⟩ he => ⟨h1, he.toEqb.later (by omega) h2, v, he.cell h3, he.cell h4, h5.calm he, h6⟩
  case hRd => exact fun A B h he => h.eqb he (by omega) hq3.lt
  case stop =>
    rintro D c A hD ⟨rfl, hl, v, h3, h4, h5, h6⟩ hdf
    refine (wpIn_wide (n := 0)).2 ?_
    go_wp2
    have hcm : Calm W1.heap.size A (A.putObj D (.deferred none)) := Calm.putObj hdf rfl (by omega) _
    refine leaves_mark hdf (results_cell2 2 3 rfl rfl rfl (loadVar_cell (.inl rfl) (hcm.cell h3)) (loadVar_cell (.inr rfl) (hcm.cell h4))) ?_
    obtain ⟨z, hz⟩ := hcm.toEqb.later (Nat.le_refl _) hl
    have h7 := h5.calm hcm
    obtain ⟨z1, hz1⟩ := z.down hb1
    rw [hz, hz1] at h7 ⊢
    have he : firstE p = 0 := by rw [hFE.out, if_neg (by omega)]
    exact ⟨_, by rw [he], z1, rfl, by rw [firstL_0 he]; exact h7⟩
  case done =>
    rintro D A hD ⟨hk0, ⟨z, rfl⟩, ⟨h3, h4⟩, h5, h6⟩ hdf
    go_wp2
    obtain ⟨t2, t3⟩ := two_set (Nat.ne_of_lt (Nat.lt_succ_self b2)) h3 h5 (.slice none 0 0) (.int .i64 72)
    have hdf2 := (heap_two (A := z.w) (b2 := b2) (b3 := b2 + 1) (D := D) (v := .slice none 0 0) (v' := .int .i64 72) (by omega) (by omega)).trans hdf
    have hcm : Calm W1.heap.size _ _ := Calm.putObj hdf2 rfl (by omega) (.deferred none)
    refine leaves_mark hdf2 (results_cell2 2 3 rfl rfl rfl (loadVar_cell (.inl rfl) (hcm.cell t2)) (loadVar_cell (.inr rfl) (hcm.cell t3))) ?_
    obtain ⟨z1, hz1⟩ := z.set (b := b2) hW1b (.slice none 0 0)
    obtain ⟨z2, hz2⟩ := z1.set (b := b2 + 1) (by omega) (.int .i64 72)
    rw [hz1, hz2] at hcm ⊢
    obtain ⟨z3, hz3⟩ := hcm.toEqb.later (Nat.le_refl _) ⟨z2, rfl⟩
    obtain ⟨z4, hz4⟩ := z3.down hb1
    rw [hz3, hz4]
    have he : firstE p = 72 := by rw [hFE.out, if_pos hk0]
    exact ⟨_, by rw [he], z4, rfl, by unfold firstL; rw [if_neg (by rw [he]; decide)]; exact isInts_nil _⟩
  case body =>
    rintro l2 k v A hk ⟨rfl, hl, ⟨h3, h4⟩, h5, h6⟩ hR hvA
    generalize hQ : roundEnd w.heap.size _ _ _ A = Q
    replace hQ := Lib.hid hQ
    have hS := @Oper.semAt_some
    have hF : ∀ f, Fence.wide.fn f = True := fun _ => rfl
    have hD : Fence.wide.depth = none := rfl
    have hsA : b2 + 1 < A.heap.size := by have := hR.lt; omega
    replace h3 := Later.cell (W := A) (by omega) h3
    replace h4 := Later.frozen (W := A) (by omega) h4
    replace h5 := Later.cell (W := A) hsA h5
    replace h6 := Later.frozen (W := A) hsA h6
    have hC := Lib.hid (pcloneI (Later.now A) v (nth (agr p) 0) hvA)
    obtain ⟨av, cv, rfl, hlv, _⟩ := hvA.opened
    clear hvA
    show Code.wpIn _ _ _ _ _ _ (Later.now A).w
    gi_wp2_with (gi_at_call 68; refine (CallsIn.inRound l2 (callsIn_wide.2 hC.out)).mono ?_; rintro e w' ⟨v', rfl, y, rfl, hown⟩; obtain ⟨A', c', rfl⟩ := owns_slice hown)
    rw [← hQ.out]
    obtain ⟨z, rfl⟩ := hl
    obtain ⟨t2, t3⟩ := two_set (Nat.ne_of_lt (Nat.lt_succ_self b2)) (h3 y) (h5 y) (.slice A' (nth (agr p) 0).length c') (.int .i64 0)
    have hown2 := owns_two (u := .slice A' (nth (agr p) 0).length c') (u' := .int .i64 0) hown (b2 := b2) (b3 := b2 + 1) (by omega) hsA
    refine ⟨((Above.below y.h).setCell (p := ⟨b2, 0, none⟩) (by show b2 < _; omega) _).setCell (p := ⟨b2 + 1, 0, none⟩) hby _, rfl, ?_, _, t2, t3, isInts_of_owns hown2 hlv, hk⟩
    obtain ⟨z1, hz1⟩ := (z.up y).set (b := b2) hW1b (.slice A' (nth (agr p) 0).length c')
    obtain ⟨z2, hz2⟩ := z1.set (b := b2 + 1) (by omega) (.int .i64 0)
    exact ⟨z2, by rw [← hz2, ← hz1]; rfl⟩
end Go.Proofs.Ytmpkbolabdmkkaa
