/- CONTRACT of places' Where. -/
import Derived.Test.YtmpkbolabdmkkaaZPmA
import Derived.Test.YtmpkbolabdmkkaaZe
import Derived.Test.YtmpkbolabdmkkaaZi
namespace Go.Proofs.Ytmpkbolabdmkkaa
open Go.RowKit

theorem usesB_at {p : Prob} {f : List Int} {piece : Int} {m : Nat} (h : m < f.length) : usesB p f m piece = (piece == pieceAt p f m) := by
  cases hA : (piece == pieceAt p f m)
  · refine usesB_no fun i hi ⟨h1, h2⟩ => ?_
    have : i = m := by omega
    subst this
    rw [h2] at hA; simp at hA
  · exact usesB_yes h (.inr rfl) (beq_iff_eq.1 hA).symm
/-- the row of what was found, the first m panes having gone through one list more than k -/
def rowF (p : Prob) (piece : Int) (k m : Nat) : List Bool := (List.range p.panes.length).map fun j => if j < m then foundTo p piece j (k + 1) else foundTo p piece j k
theorem rowF_len (p : Prob) (piece : Int) (k m : Nat) : (rowF p piece k m).length = p.panes.length := by simp [rowF]
theorem nth_rowF {p : Prob} {piece : Int} {k m j : Nat} (h : j < p.panes.length) : nth (rowF p piece k m) j = if j < m then foundTo p piece j (k + 1) else foundTo p piece j k := by
  rw [nth_eq _ _ (by rw [rowF_len]; exact h)]; simp [rowF]
theorem rowF_start (p : Prob) (piece : Int) : rowF p piece 0 0 = List.replicate p.panes.length false := by
  refine ext_nth (by rw [rowF_len]; simp) fun j hj => ?_
  rw [rowF_len] at hj
  rw [nth_rowF hj, if_neg (Nat.not_lt_zero _), nth_eq _ _ (by simpa using hj)]
  simp [foundTo]
theorem rowF_end (p : Prob) (piece : Int) (k : Nat) : rowF p piece k p.panes.length = rowF p piece (k + 1) 0 := by
  refine ext_nth (by rw [rowF_len, rowF_len]) fun j hj => ?_
  rw [rowF_len] at hj
  rw [nth_rowF hj, nth_rowF hj, if_pos hj, if_neg (Nat.not_lt_zero _)]
theorem rowF_no {p : Prob} {piece : Int} {k m : Nat} (h : usesB p (nth (agr p) k) m piece = false) : rowF p piece k (m + 1) = rowF p piece k m := by
  refine ext_nth (by rw [rowF_len, rowF_len]) fun j hj => ?_
  rw [rowF_len] at hj
  rw [nth_rowF hj, nth_rowF hj]
  by_cases hjm : j = m
  · subst hjm
    rw [if_pos (Nat.lt_succ_self _), if_neg (Nat.lt_irrefl _)]
    show (foundTo p piece j k || usesB p (nth (agr p) k) j piece) = _
    rw [h, Bool.or_false]
  · by_cases h1 : j < m
    · rw [if_pos h1, if_pos (by omega)]
    · rw [if_neg h1, if_neg (by omega)]
theorem rowF_yes {p : Prob} {piece : Int} {k m : Nat} (h : usesB p (nth (agr p) k) m piece = true) : rowF p piece k (m + 1) = (rowF p piece k m).set m true := by
  refine ext_nth (by rw [List.length_set, rowF_len, rowF_len]) fun j hj => ?_
  rw [rowF_len] at hj
  by_cases hjm : m = j
  · subst hjm
    rw [nth_set_same (by rw [rowF_len]; exact hj), nth_rowF hj, if_pos (Nat.lt_succ_self _)]
    show (foundTo p piece m k || usesB p (nth (agr p) k) m piece) = _
    rw [h, Bool.or_true]
  · rw [nth_set_other (Ne.symm hjm), nth_rowF hj, nth_rowF hj]
    by_cases h1 : j < m
    · rw [if_pos h1, if_pos (by omega)]
    · rw [if_neg h1, if_neg (by omega)]
/-- no pane of the first m has the piece -/
def noneTo (p : Prob) (f : List Int) (piece : Int) (m : Nat) : Bool := decide (∀ i, i < m → usesB p f i piece = false)
theorem noneTo_0 (p : Prob) (f : List Int) (piece : Int) : noneTo p f piece 0 = true := by simp [noneTo]
theorem noneTo_yes {p : Prob} {f : List Int} {piece : Int} {m : Nat} (h : usesB p f m piece = true) : noneTo p f piece (m + 1) = false := by
  unfold noneTo; rw [decide_eq_false_iff_not]; intro h2; have := h2 m (Nat.lt_succ_self _); rw [h] at this; cases this
theorem noneTo_no {p : Prob} {f : List Int} {piece : Int} {m : Nat} (h : usesB p f m piece = false) : noneTo p f piece (m + 1) = noneTo p f piece m := by
  unfold noneTo
  congr 1
  apply propext
  constructor
  · exact fun h2 i hi => h2 i (by omega)
  · intro h2 i hi
    rcases Nat.lt_succ_iff_lt_or_eq.1 hi with h1 | rfl
    · exact h2 i h1
    · exact h
theorem noneTo_all (p : Prob) (f : List Int) (piece : Int) : noneTo p f piece f.length = !usesB p f (-1) piece := by
  cases hA : usesB p f (-1) piece
  · unfold noneTo
    simp only [Bool.not_false, decide_eq_true_eq]
    intro i hi
    rw [usesB_at hi]
    cases hB : (piece == pieceAt p f i)
    · rfl
    · have := usesB_yes (pane := -1) hi (.inl (by decide)) (beq_iff_eq.1 hB).symm
      rw [hA] at this; cases this
  · unfold noneTo
    simp only [Bool.not_true, decide_eq_false_iff_not]
    intro h2
    have : usesB p f (-1) piece = false := usesB_no fun i hi ⟨_, h4⟩ => by
      have h5 := h2 i hi
      rw [usesB_at hi, h4] at h5; simp at h5
    rw [hA] at this; cases this

/-- a row of bools of the call's own, and its box behind it -/
structure FndAt (W : World) (b1 N : Nat) (kb : List Bool) (A : World) : Prop where
  later : ∃ z : Later W, A = z.w
  le : W.heap.size ≤ b1
  size : b1 + 1 < A.heap.size
  cell : A.cell? ⟨b1 + 1, 0, none⟩ = some (.slice (some ⟨b1, 0, none⟩) N N)
  own : A.ownsRow W.heap.size 4 1 (.slice (some ⟨b1, 0, none⟩) N N) N (kb.map Value.bool)
theorem FndAt.eqb {W : World} {b1 N B : Nat} {kb : List Bool} {A C : World} (h : FndAt W b1 N kb A) (he : Eqb B A C) (hB : b1 + 1 < B) : FndAt W b1 N kb C :=
  ⟨he.later (by have := h.le; omega) h.later, h.le, Nat.lt_of_lt_of_le hB he.size, (he.cell (p := ⟨b1 + 1, 0, none⟩) hB).trans h.cell, owns_block h.own fun b hb => by cases hb; exact he.block _ (by show b1 < B; omega)⟩
theorem FndAt.up {W : World} {b1 N : Nat} {kb : List Bool} {A : World} (h : FndAt W b1 N kb A) (y : Later A) : FndAt W b1 N kb y.w := h.eqb (Eqb.below y.h (Nat.le_refl _)) h.size
theorem FndAt.set {W : World} {b1 N b : Nat} {kb : List Bool} {A : World} (h : FndAt W b1 N kb A) (hW : W.heap.size ≤ b) (h1 : b ≠ b1) (h2 : b ≠ b1 + 1) (v : Value) : FndAt W b1 N kb (A.setCell ⟨b, 0, none⟩ v) := by
  refine ⟨?_, h.le, by simpa [World.setCell] using h.size, (cell_far h2 v).trans h.cell, owns_block h.own fun c hc => ?_⟩
  · obtain ⟨z, rfl⟩ := h.later
    exact z.set hW v
  · cases hc
    exact Below.heap_setCell _ ⟨b, 0, none⟩ _ _ (Ne.symm h1)
theorem FndAt.at_ {W : World} {b1 N : Nat} {kb : List Bool} {A : World} (h : FndAt W b1 N kb A) {i : Nat} (hi : i < N) :
    A.cell? ⟨b1, i, none⟩ = some (.bool (nth kb i)) ∧ A.frozen? ⟨b1, i, none⟩ = false ∧ FndAt W b1 N (kb.set i true) (A.setCell ⟨b1, i, none⟩ (.bool true)) := by
  obtain ⟨z, rfl⟩ := h.later
  obtain ⟨d0, d1, d2, d3⟩ := owns_at z h.own i hi
  have hl : kb.length = N := by have := h.own.1; simpa using this
  obtain ⟨z2, hz2, hown, _⟩ := d3 (.bool true)
  refine ⟨?_, d1, ⟨z2, hz2⟩, h.le, by simpa [World.setCell] using h.size, ?_, ?_⟩
  · rw [d0, nth_eq _ _ (by omega)]; simp [hl, hi]
  · exact (World.cell?_setCell_other _ _ _ _ (fun e => by cases e)).trans h.cell
  · rw [hz2, List.map_set]; exact hown

theorem results_tct {fn : Func} {b : Nat} {t c u : Tmp} {ty : TypeId} {tmps : Array Value} {w : World} {v : Value} (h : fn.results = #[.tmp t, .cell c ty, .tmp u]) (hc : tmps.getD c undef = .pointer (some ⟨b, 0, none⟩))
    (h2 : (loadVar ty ⟨b, 0, none⟩).run Try.prog w = .ok v w) : (results fn tmps).run Try.prog w = .ok (.tuple #[tmps.getD t undef, v, tmps.getD u undef]) w := by
  rw [Array.getD_eq_getD_getElem?] at hc
  simp only [results, h]
  simp [Result.andThen, hc, asAddr, h2]
theorem loadVar_bool {b : Nat} {w : World} {v : Value} (hc : w.cell? ⟨b, 0, none⟩ = some v) : (loadVar 4 ⟨b, 0, none⟩).run Try.prog w = .ok v w := by go_simp

theorem whereE_ask (p : Prob) (piece : Int) : whereE p piece = askE p (wi piece 1 65535) := by
  unfold whereE askE
  cases validP p <;> cases wi piece 1 65535 <;> simp

set_option maxRecDepth 100000 in
set_option maxHeartbeats 2000000 in
theorem pWhere {W : World} (x : Later W) (v0 v1 v2 : Value) (p : Prob) (piece : Int) (hp : IsProb W v0 v1 v2 p) :
    Calls Try.prog 47 #[.agg #[v0, v1, v2], .int .i64 piece] x.w (EndsWhere W (whereL p piece) (nowB p piece) (whereE p piece)) := by
  refine (callsIn_wide (n := 0)).1 (callsIn_of_wp_marks (F := Fence.wide) (n := 0) Try.func47 rfl trivial ?_ rfl)
  refine (wpIn_wide (n := 0)).2 ?_
  simp only [Try.ntmps47, List.size_toArray, List.length_cons, List.length_nil, Nat.reduceAdd, Nat.reduceSub, Array.replicate_succ, Array.replicate_zero, List.push_toArray, List.append_toArray, List.nil_append, List.cons_append]
  go_upto_region 1 with (fail)
  obtain ⟨W1, x1, e1, hb1, ⟨s1, s2⟩, ⟨p0, p1, p2⟩, q0⟩ := enter31 x v0 v1 v2 (.int .i64 piece) 26 3
  have hx1 : x1.w.heap.size = x.w.heap.size + 1 + 1 := by rw [← e1]; simp
  rw [e1, ← hx1]
  clear e1
  obtain ⟨b5, hB5⟩ : ∃ b5, x1.w.heap.size = b5 := ⟨_, rfl⟩
  have hW5 : W1.heap.size ≤ b5 := hB5 ▸ x1.h.size
  obtain ⟨W2, hW2⟩ : ∃ W2, x1.w.alloc (.cells #[.bool false] 4) = W2 := ⟨_, rfl⟩
  have hb2 : Below W1.heap.size W1 W2 := hW2 ▸ x1.h.alloc x1.h.size _
  have hs2 : W2.heap.size = b5 + 1 := by rw [← hW2, ← hB5]; simp
  have c5 : ∀ y : Later W2, y.w.cell? ⟨b5, 0, none⟩ = some (.bool false) := Later.cell (by omega) (by rw [← hW2, ← hB5]; exact World.cell?_alloc_at _ _ _ 0 rfl)
  have f5 : ∀ y : Later W2, y.w.frozen? ⟨b5, 0, none⟩ = false := Later.frozen (by omega) (by rw [← hW2, ← hB5]; exact World.frozen?_alloc_at _ _ _ 0 rfl)
  have hxb : x.w.heap.size + 1 < b5 := by omega
  rw [hW2, hB5]
  clear hW2 hB5 hx1 x1
  have HP1 := Lib.hid (hp.below hb1)
  have HP := Lib.hid (HP1.out.below hb2)
  obtain ⟨ap, cp, rfl, lp, _⟩ := hp.panes.opened
  obtain ⟨ao, co, rfl, lo, _⟩ := hp.opts.opened
  obtain ⟨ar, cr, rfl, lr, _⟩ := hp.rules.opened
  clear hp
  have P0 := Later.cells hb2 p0
  have P1 := Later.cells hb2 p1
  have P2 := Later.cells hb2 p2
  have Q0 := Later.cells hb2 q0
  replace s1 := Later.sizes hb2 s1
  replace s2 := Later.sizes hb2 s2
  have hWA := whereE_ask p piece
  show Code.wp _ _ _ _ (Later.now W2).w
  generalize Later.now W2 = x1
  refine wp_region_later x1 (by kernel_rfl) (by kernel_rfl) ?_
  repeat (go_big_quiet_step ((first | (go_at_call 94; exact calls_same (pwithin _ _ _ _)) | (go_at_call 65; exact pasked _ _ _ _ _ _ HP.out))))
  refine wpQuiet_nil ?_
  rintro _ ⟨x1, rfl⟩
  by_cases h0 : askE p (wi piece 1 65535) = 0
  case neg =>
    have hb0 : (askE p (wi piece 1 65535) != 0) = true := by simp [h0]
    have hres : Hid (whereL p piece = [] ∧ nowB p piece = false) := Lib.hid ⟨by unfold whereL; rw [if_neg (by rw [hWA]; exact h0)], by simp [nowB, hWA, h0]⟩
    replace hWA := Lib.hid hWA
    clear h0
    go_wp2
    have t5 : (x1.w.setCell ⟨b5, 0, none⟩ (.bool false)).cell? ⟨b5, 0, none⟩ = some (.bool false) := World.cell?_setCell_same _ _ _ (c5 x1)
    refine leaves_none (results_tct rfl rfl (loadVar_bool t5)) ?_
    obtain ⟨z, hz⟩ := x1.down (hb1.trans (hb2.mono hb1.size))
    obtain ⟨z1, hz1⟩ := z.set (b := b5) (by have := hb1.size; omega) (.bool false)
    rw [hz, hz1]
    exact ⟨_, by rw [hWA.out, hres.out.2]; rfl, z1, rfl, by rw [hres.out.1]; exact isInts_nil _⟩
  have hb0 : (askE p (wi piece 1 65535) != 0) = false := by simp [h0]
  obtain ⟨hv, hwi, _⟩ := askE_0.1 h0
  replace hwi := Lib.hid hwi
  have hE0 : Hid (whereE p piece = 0) := Lib.hid (by rw [hWA]; exact h0)
  have h64 := valid_pane64 hv
  have hlen := Lib.hid (valid_len hv)
  have hmem := Lib.hid (fun f (hf : f ∈ agr p) => agr_mem hv hf)
  replace hWA := Lib.hid hWA
  replace h0 := Lib.hid h0
  obtain ⟨cs, hmk, hzk⟩ := makeBools_run p.panes.length (by omega)
  obtain ⟨b1, hB1⟩ : ∃ b1, x1.w.heap.size = b1 := ⟨_, rfl⟩
  go_upto_region 5 with (fail)
  have hk0 : FndAt W1 b1 p.panes.length (rowF p piece 0 0) ((x1.w.alloc (.cells cs 4)).alloc (.cells #[.slice (some ⟨b1, 0, none⟩) p.panes.length p.panes.length] 52)) := by
    have hle : W1.heap.size ≤ x1.w.heap.size := by have := x1.h.size; omega
    refine ⟨⟨⟨_, ((below_then hb2 x1).alloc hle _).alloc (by simp; omega) _⟩, rfl⟩, by omega, by rw [← hB1]; simp, World.cell?_alloc_at _ 52 _ 0 (by simp [hB1]), ?_⟩
    rw [rowF_start]
    have := (hzk x1.w).alloc (.cells #[.slice (some ⟨b1, 0, none⟩) p.panes.length p.panes.length] 52)
    rw [hB1] at this
    exact owns_mono this (by omega)
  obtain ⟨W4, hW4⟩ : ∃ W4, (x1.w.alloc (.cells cs 4)).alloc (.cells #[.slice (some ⟨b1, 0, none⟩) p.panes.length p.panes.length] 52) = W4 := ⟨_, rfl⟩
  have hb4 : Below W2.heap.size W2 W4 := by rw [← hW4]; exact (x1.h.alloc x1.h.size _).alloc (by have := x1.h.size; simp; omega) _
  have hs4 : W4.heap.size = b1 + 2 := by rw [← hW4, ← hB1]; simp
  have hsb : b5 + 1 ≤ b1 := by have := x1.h.size; omega
  have hc54 : W4.cell? ⟨b5, 0, none⟩ = some (.bool false) := c5 ⟨W4, hb4⟩
  have hf54 : W4.frozen? ⟨b5, 0, none⟩ = false := f5 ⟨W4, hb4⟩
  rw [hW4] at hk0 ⊢
  clear hW4 hzk hmk hB1 cs x1 c5 f5
  replace Q0 := Later.cells hb4 Q0
  replace P0 := Later.cells hb4 P0
  replace P1 := Later.cells hb4 P1
  replace P2 := Later.cells hb4 P2
  replace s1 := Later.sizes hb4 s1
  replace s2 := Later.sizes hb4 s2
  show Code.wp _ _ _ _ (Later.now W4).w
  go_upto_region 6 with (go_at_call 67; refine (pagreeing (Later.now W4) _ _ _).mono ?_; rintro e w' ⟨bq, rfl, y, rfl, hq1, hq2⟩)
  have hb24 : Below W1.heap.size W1 W4 := hb2.trans (hb4.mono hb2.size)
  have hly : ∃ z : Later W1, y.w = z.w := ⟨⟨y.w, below_then hb24 y⟩, rfl⟩
  have hq3 : RdP W1 bq (.slice ap p.panes.length cp) (.slice ao p.opts.length co) (.slice ar p.rules.length cr) y.w := ⟨hly, hq2.lt, hq2.c0, hq2.c1, hq2.c2⟩
  change W4.heap.size ≤ bq at hq1
  have hFy := hk0.up y
  have hc5 : y.w.cell? ⟨b5, 0, none⟩ = some (.bool false) := (y.h.cell (p := ⟨b5, 0, none⟩) (by show b5 < _; omega)).trans hc54
  have hf5 : y.w.frozen? ⟨b5, 0, none⟩ = false := (y.h.frozen (p := ⟨b5, 0, none⟩) (by show b5 < _; omega)).trans hf54
  have hw4 := y.h.size
  obtain ⟨w, hw⟩ : ∃ w, y.w = w := ⟨_, rfl⟩
  rw [hw] at hFy hc5 hf5 hly hq3 hw4 ⊢
  clear hq2 hw y hk0 hc54 hf54
  refine (wpIn_wide (n := 0)).1 ?_
  refine' wpIn_rangeL (gf := 124) rfl (enters_of Try.func124 (by kernel_rfl) rfl) rfl (RdP W1 bq (.slice ap p.panes.length cp) (.slice ao p.opts.length co) (.slice ar p.rules.length cr)) (agr p) ?iter
    (fun k A => FndAt W1 b1 p.panes.length (rowF p piece k 0) A ∧ A.cell? ⟨b5, 0, none⟩ = some (.bool (nowTo p piece k)) ∧ A.frozen? ⟨b5, 0, none⟩ = false)
    (fun _ _ => False) ?hI ?hIx ?hRd ⟨hFy, hc5, hf5⟩ hq3 _ ?assign ?body ?done ?stop
  case assign =>
    intro l v W K hK
    have hS := @Oper.semAt_some
    gi_wp2
    exact hK
  case iter => exact fun W2 hb2 hr2 => iterAgr bq _ _ _ p HP1.out hv hr2
  case hI => exact fun k A B ⟨h1, h2, h3⟩ he => ⟨h1.eqb he (by omega), (he.cell (p := ⟨b5, 0, none⟩) (by show b5 < _; omega)).trans h2, (he.frozen (p := ⟨b5, 0, none⟩) (by show b5 < _; omega)).trans h3⟩
  case hIx => exact fun c A B h he => h
  case hRd => exact fun A B h he => h.eqb he (by omega) hq3.lt
  case stop => exact fun D c A hD h hdf => h.elim
  case done =>
    rintro D A hD ⟨hFd, hc, hf⟩ hdf
    have hDA : D < A.heap.size := (Array.getElem?_eq_some_iff.1 hdf).1
    have hb5A : b5 < A.heap.size := by omega
    obtain ⟨zA, rfl⟩ := hFd.later
    have g0 : ∀ y : Later zA.w, y.w.cell? ⟨x.w.heap.size, 0, none⟩ = some (.slice ap p.panes.length cp) := Later.cells zA.h p0
    have gs : ∀ y : Later zA.w, x.w.heap.size < y.w.heap.size := fun y => by have := y.h.size; omega
    have hpanes := HP1.out.panes
    obtain ⟨_, _, hqq, _, hpanes⟩ := hpanes.opened
    cases hqq
    replace hc := Later.cell (W := zA.w) hb5A hc
    replace hf := Later.frozen (W := zA.w) hb5A hf
    replace hdf := Lib.hid hdf
    have hbA1 : Below W1.heap.size W1 zA.w := zA.h
    have hwy := Lib.hid (fun k => And.intro (@whereTo_yes p piece k) (@whereTo_no p piece k))
    have hwl := fun k => whereTo_len p piece k
    go_wp2
    show Code.wp _ _ _ _ (Later.now zA.w).w
    go_loopw [4, 58] (fun v i wr => ∃ k : Nat, k ≤ p.panes.length ∧ i = .int .i64 k ∧ ∃ y : Later zA.w, wr = y.w ∧ y.w.ownsRow zA.w.heap.size 3 1 v (whereTo p piece k).length ((whereTo p piece k).map (Value.int .i64))) (fun _ i _ => p.panes.length - (intOf i).toNat)
    case atStart => exact ⟨0, Nat.zero_le _, rfl, Later.now zA.w, rfl, World.ownsRow_nil _ _ _ _⟩
    case round =>
      obtain ⟨k, hk, rfl, y, rfl, hown⟩ := hrel
      have hwk := hwl k
      by_cases hlt : k < p.panes.length
      · obtain ⟨bp, op, rfl, hbp, c0⟩ := hpanes.out k hlt
        replace c0 := Later.cells hbA1 c0
        replace hbp := Later.sizes hbA1 hbp
        obtain ⟨e1, _, _⟩ := (hFd.up y).at_ hlt
        have e4 := (hFd.up y).cell
        rw [nth_rowF hlt, if_neg (Nat.not_lt_zero _)] at e1
        cases hB : foundTo p piece k (agr p).length
        · rw [hB] at e1
          replace hown := Lib.hid hown
          go_wp2
          go_roundw
          case rel => exact ⟨k + 1, by omega, by go_num, y, rfl, by rw [(hwy.out k).2 hB]; exact hown.out⟩
          case measure => simp [intOf]; omega
        · rw [hB] at e1
          go_wp2_with (at_builtin; refine wpList_app1 y 22 3 _ 8 Try.info3 rfl Try.underlying22 rfl _ _ rfl _ _ _ (by rfl) hown _ (by rfl) (by rfl) (by omega) (by omega) ?_; intro v' x hown' hgr)
          go_roundw
          case rel => exact ⟨k + 1, by omega, by go_num, x, rfl, owns_step hown' ((hwy.out k).1 hB)⟩
          case measure => simp [intOf]; omega
      · obtain rfl : k = p.panes.length := by omega
        replace hown := Lib.hid hown
        go_wp2
        have hDz : D < zA.w.heap.size := hDA
        have hdfy : y.w.heap[D]? = some (.deferred (some [])) := (y.h.block D hDz).trans hdf.out
        have hcy := hc y
        have hF1 : ∀ k, k ≠ b5 → ((y.w.setCell ⟨b5, 0, none⟩ (.bool (nowTo p piece (agr p).length))).drew).heap[k]? = y.w.heap[k]? := fun k hk => Below.heap_setCell _ ⟨b5, 0, none⟩ _ _ hk
        have hlF : ∃ z : Later W1, (y.w.setCell ⟨b5, 0, none⟩ (.bool (nowTo p piece (agr p).length))).drew = z.w := by
          obtain ⟨z1, hz1⟩ := (zA.up y).set hW5 (.bool (nowTo p piece (agr p).length))
          obtain ⟨z2, hz2, _⟩ := z1.drew1
          exact ⟨z2, by rw [← hz2, ← hz1]; rfl⟩
        have hcF : ((y.w.setCell ⟨b5, 0, none⟩ (.bool (nowTo p piece (agr p).length))).drew).cell? ⟨b5, 0, none⟩ = some (.bool (nowTo p piece (agr p).length)) := World.cell?_setCell_same _ _ _ hcy
        replace hdfy := Lib.hid hdfy
        replace hF1 := Lib.hid hF1
        replace hlF := Lib.hid hlF
        replace hcF := Lib.hid hcF
        go_region
        all_goals
          obtain ⟨F, hFF⟩ : ∃ F, (y.w.setCell ⟨b5, 0, none⟩ (.bool (nowTo p piece (agr p).length))).drew = F := ⟨_, rfl⟩
          rw [hFF] at hF1 hlF hcF ⊢
          clear hFF
          have hdF : F.heap[D]? = some (.deferred (some [])) := (hF1.out D (by omega)).trans hdfy.out
          have hcm : Calm W1.heap.size F (F.putObj D (.deferred none)) := Calm.putObj hdF rfl (by omega) _
          replace hdF := Lib.hid hdF
          go_wp2
          refine leaves_mark hdF.out (results_tct rfl rfl (loadVar_bool (hcm.cell hcF.out))) ?_
          obtain ⟨z, hz⟩ := hcm.toEqb.later (Nat.le_refl _) hlF.out
          obtain ⟨z1, hz1⟩ := z.down hb1
          refine ⟨_, by rw [hE0.out, show nowB p piece = nowTo p piece (agr p).length by simp [nowB, hE0.out]]; rfl, z1, hz.trans hz1, ?_⟩
          rw [show whereL p piece = whereTo p piece p.panes.length by simp [whereL, hE0.out]]
          refine isInts_of_owns (B := zA.w.heap.size) (owns_block hown.out fun b hb => ?_) (by omega)
          have := (hown.out.lt b hb).1
          rw [← hz1, ← hz]
          exact (World.putObj_heap_other (by omega)).trans (hF1.out b (by omega))
  case body =>
    rintro l2 k v A hk ⟨hFd, hc, hf⟩ hR hvA
    generalize hQ : roundEnd w.heap.size _ _ _ A = Q
    replace hQ := Lib.hid hQ
    have hS := @Oper.semAt_some
    have hF : ∀ f, Fence.wide.fn f = True := fun _ => rfl
    have hD : Fence.wide.depth = none := rfl
    obtain ⟨m1, m2, m3, _⟩ := hmem.out _ (nth_mem hk)
    replace m2 := Lib.hid m2
    replace m3 := Lib.hid m3
    clear m1
    have hnow : Hid (nowTo p piece (k + 1) = (nowTo p piece k || noneTo p (nth (agr p) k) piece (nth (agr p) k).length)) := Lib.hid (by rw [noneTo_all]; rfl)
    have hus := Lib.hid (fun m (h : m < (nth (agr p) k).length) => @usesB_at p (nth (agr p) k) piece m h)
    have hrow := Lib.hid (fun m => And.intro (@rowF_no p piece k m) (@rowF_yes p piece k m))
    obtain ⟨f, hf_⟩ : ∃ f, f = nth (agr p) k := ⟨_, rfl⟩
    rw [← hf_] at hnow hus hrow m2 m3 hvA
    clear hf_
    have hopts := HP1.out.opts
    obtain ⟨_, _, hqq, _, hopts⟩ := hopts.opened
    cases hqq
    obtain ⟨av, cv, rfl, lv, _⟩ := hvA.opened
    gi_wp2
    gi_loopw [10, 31] (fun nv i wr => ∃ m : Nat, m ≤ f.length ∧ i = .int .i64 m ∧ nv = .bool (noneTo p f piece m) ∧ FndAt W1 b1 p.panes.length (rowF p piece k m) wr ∧ (wr.cell? ⟨b5, 0, none⟩ = some (.bool (nowTo p piece k)) ∧ wr.frozen? ⟨b5, 0, none⟩ = false) ∧ RdP W1 bq (.slice ap p.panes.length cp) (.slice ao p.opts.length co) (.slice ar p.rules.length cr) wr ∧ IsInts wr (.slice av f.length cv) f ∧ Above w.heap.size A wr) (fun _ i _ => f.length - (intOf i).toNat)
    case atStart => exact ⟨0, Nat.zero_le _, rfl, by rw [noneTo_0], hFd, ⟨hc, hf⟩, hR, hvA, Above.refl _ _⟩
    case round =>
      rename_i wr _
      clear hFd hc hf hR hvA
      obtain ⟨m, hm, rfl, rfl, hFd, ⟨hc, hf⟩, hR, hvA, hab⟩ := hrel
      by_cases hlt : m < f.length
      · have hmo : m < p.opts.length := by have := m2.out; omega
        have hmp : m < p.panes.length := by have := hlen.out; omega
        have hfm := m3.out m hlt
        obtain ⟨q, hq⟩ := Int.eq_ofNat_of_zero_le hfm.1
        have hql : q < (nth p.opts m).length := by omega
        have hpa : pieceAt p f m = (nth (nth p.opts m) q).piece := by unfold pieceAt; rw [hq]; rfl
        have hus1 := hus.out m hlt
        rw [hpa] at hus1
        replace hus1 := Lib.hid hus1
        clear hpa
        obtain ⟨bo, oo, rfl, hbo, u, c0, hu⟩ := hopts.out m hmo
        obtain ⟨au, cu, rfl, lu, hel⟩ := hu.opened
        obtain ⟨be, oe, rfl, hbe, d0, _⟩ := hel.out q hql
        clear hel hu
        obtain ⟨a', c', he, _, hI⟩ := id hvA
        cases he
        obtain ⟨bf, of_, rfl, hbf, hcf⟩ := hI m hlt
        rw [hq] at hcf
        clear hI
        replace hq := Lib.hid hq
        replace hvA := Lib.hid hvA
        obtain ⟨zr, rfl⟩ := hFd.later
        have hb5z : b5 < zr.w.heap.size := by have := hFd.size; omega
        replace hFd := Lib.hid hFd
        replace hR := Lib.hid hR
        replace hc := Later.cell (W := zr.w) hb5z hc
        replace hf := Later.frozen (W := zr.w) hb5z hf
        replace hcf := Later.cell (W := zr.w) hbf hcf
        have hbf' := Later.size (W := zr.w) hbf
        replace c0 := Later.cells zr.h c0
        replace d0 := Later.cells zr.h d0
        replace hbo := Later.sizes zr.h hbo
        replace hbe := Later.sizes zr.h hbe
        have b0 := Later.cells zr.h p1
        have b1' := Later.cells zr.h q0
        have t1 : ∀ y : Later zr.w, x.w.heap.size < y.w.heap.size := fun y => by have := y.h.size; omega
        have t2 : ∀ y : Later zr.w, x.w.heap.size + 1 < y.w.heap.size := fun y => by have := y.h.size; omega
        clear hfm
        show Code.wpIn _ _ _ _ _ _ (Later.now zr.w).w
        generalize Later.now zr.w = y
        gi_wp2
        refine wpIn_region_later y (by kernel_rfl) (by kernel_rfl) (by kernel_rfl) ?_
        repeat (go_big_quiet_step (fail))
        refine wpQuiet_nil ?_
        rintro _ ⟨y, rfl⟩
        cases hB : (piece == (nth (nth p.opts m) q).piece)
        · have hu0 := Lib.hid (hus1.out.trans hB)
          gi_wp2
          go_roundw
          case rel => exact ⟨m + 1, by omega, by go_num, by rw [noneTo_no hu0.out], by rw [(hrow.out m).1 hu0.out]; exact hFd.out.up y, ⟨hc y, hf y⟩, hR.out.up y, hvA.out.below y.h, hab.trans (Above.below y.h)⟩
          case measure => simp [intOf]; omega
        · have hu1 := Lib.hid (hus1.out.trans hB)
          obtain ⟨e1, e2, e3⟩ := (hFd.out.up y).at_ hmp
          have e4 := (hFd.out.up y).cell
          gi_wp2
          go_roundw
          case rel => exact ⟨m + 1, by omega, by go_num, by rw [noneTo_yes hu1.out], by rw [(hrow.out m).2 hu1.out]; exact e3, ⟨(World.cell?_setCell_other _ _ _ _ (fun e => by cases e; omega)).trans (hc y), (World.frozen?_setCell _ _ _ _).trans (hf y)⟩, (hR.out.up y).setCell (by omega) (by omega) _, (hvA.out.below y.h).setBool e1 _, (hab.trans (Above.below y.h)).setCell (p := ⟨b1, m, none⟩) (by show b1 < _; omega) _⟩
          case measure => simp [intOf]; omega
      · obtain rfl : m = f.length := by omega
        have hend := rowF_end p piece k
        have hfN : Hid (f.length = p.panes.length) := Lib.hid (m2.out.trans hlen.out)
        replace hend := Lib.hid hend
        have fin : Hid (∀ (a : Act) (b : Bool), (nowTo p piece k || noneTo p f piece f.length) = b → Q .normal a (wr.setCell ⟨b5, 0, none⟩ (.bool b))) := Lib.hid (by
          intro a b hb
          rw [← hQ.out]
          refine ⟨hab.setCell (p := ⟨b5, 0, none⟩) (by show b5 < _; omega) _, hR.setCell hW5 (by omega) _, ?_, ?_, (World.frozen?_setCell _ _ _ _).trans hf⟩
          · have h9 := hFd.set hW5 (by omega) (by omega) (.bool b)
            rw [hfN.out] at h9
            rw [← hend.out]; exact h9
          · rw [hnow.out, hb]; exact World.cell?_setCell_same _ _ _ hc)
        have hb5z : b5 < wr.heap.size := by have := hFd.size; omega
        cases hN : nowTo p piece k
        all_goals
          rw [hN] at hc
          gi_wp2
          exact fin.out _ _ (by rw [hN]; simp)
end Go.Proofs.Ytmpkbolabdmkkaa
