/- CONTRACT of the surveyor's node. -/
import Derived.Test.YtmpkbolabdmkkaaZSuD
import Derived.Test.YtmpkbolabdmkkaaZRoB
import Derived.Test.YtmpkbolabdmkkaaZApd
namespace Go.Proofs.Ytmpkbolabdmkkaa
open Go.RowKit

/-- HOW A NODE ENDS: a tree in blocks of its own; of the old blocks the surveyor's alone was written -/
def SvPost (bs : Nat) (v0 v1 v2 : Value) (M : Nat) (xw : World) (t : Nd) (e : Ending) (w' : World) : Prop :=
  ∃ k, e = .returned (.agg #[.int .i64 t.kind, .int .i64 t.index, k]) ∧ isSl k ∧ xw.grownBy w' (some bs) ∧ SvAt w' bs v0 v1 v2 M ∧ IsNd (wout (fun k => decide (k < xw.heap.size)) w') k t
def PNode (Wb : World) (p : Prob) (v0 v1 v2 : Value) (bs m : Nat) : Prop := ∀ (c : List Int), c.length + m = p.opts.length → (∀ i, i < c.length → 0 ≤ nth c i ∧ nth c i < (nth p.opts i).length) → ∀ (xw : World) (vf : Value) (N : Nat), Below Wb.heap.size Wb xw → IsInts (wout (fun k => decide (k = bs)) xw) vf c → SvAt xw bs v0 v1 v2 N → N + szN (surv p m c) ≤ 200000 →
  Calls Try.prog 117 #[.pointer (some ⟨bs, 0, none⟩), vf] xw (SvPost bs v0 v1 v2 (N + szN (surv p m c)) xw (surv p m c))

theorem loadVar_node {b : Nat} {w : World} {v0 v1 v2 : Value} (h0 : w.cell? ⟨b, 0, none⟩ = some v0) (h1 : w.cell? ⟨b, 1, none⟩ = some v1) (h2 : w.cell? ⟨b, 2, none⟩ = some v2) : (loadVar 64 ⟨b, 0, none⟩).run Try.prog w = .ok (.agg #[v0, v1, v2]) w := by go_simp
/-- a kid appended, and the row put into the node -/
theorem kid_step {A1 A w' : World} {b8 bs n : Nat} {u0 u1 v v' w0 w1 w2 : Value} {M : Int} {l : List Nd} {us : List (Nd × Value)} (hg : A1.grownBy A (some bs)) (hb8 : A1.heap.size ≤ b8) (hbs : bs < b8) (hbx : BoxAt A b8 u0 u1 v) (hsv : SvAt A bs w0 w1 w2 M)
    (h2 : us.map Prod.fst = l) (h3 : ∀ x ∈ us, IsNd (wout (hidB b8 v.ownBlock) A) x.2 x.1) (hne : ∀ g, v.ownBlock = some g → b8 < g) (hb : b8 < n) (hv : ∀ g, v.ownBlock = some g → g < n) (u : Value) (g : Nd) (hu : IsNd (wout (fun k => decide (k < n)) A) u g)
    (ho : w'.ownsRow b8 64 3 v' (l.length + 1) (us.flatMap ndCells ++ ndCells (g, u))) (hg' : A.grownBy w' v.ownBlock) (h5 : v'.ownBlock = v.ownBlock ∨ v'.ownBlock = some A.heap.size) :
    BoxAt w' b8 u0 u1 v ∧ A1.grownBy (w'.setCell ⟨b8, 2, none⟩ v') (some bs) ∧ BoxAt (w'.setCell ⟨b8, 2, none⟩ v') b8 u0 u1 v' ∧ SvAt (w'.setCell ⟨b8, 2, none⟩ v') bs w0 w1 w2 M ∧ KidRow (w'.setCell ⟨b8, 2, none⟩ v') b8 b8 v' (l ++ [g]) := by
  have hbw : BoxAt w' b8 u0 u1 v := hbx.grown hg'.size (hg'.block b8 hbx.lt (fun e => by have := hne b8 e.symm; omega))
  have hsw : SvAt w' bs w0 w1 w2 M := hsv.of_block hg'.size (hg'.block bs hsv.lt (fun e => by have := hne bs e.symm; omega))
  refine ⟨hbw, grown_setO (grown_row hg hg' fun g hg => by have := hne g hg; omega) hb8 _ _, hbw.set2 _, hsw.of_block (by simp [World.setCell]) (set_block (by omega)), ?_⟩
  exact (KidRow.app h2 h3 hne hb hv u g hu hbx.lt ho hg' h5).set _
theorem surv_mono (p : Prob) (m : Nat) (c : List Int) : ∀ (K k : Nat), k ≤ K → szL (survTo p m c k) ≤ szL (survTo p m c K)
  | 0, k, h => by obtain rfl : k = 0 := by omega
                  exact Nat.le_refl _
  | K + 1, k, h => by
    rcases Nat.lt_or_ge K k with h1 | h1
    · obtain rfl : k = K + 1 := by omega
      exact Nat.le_refl _
    · have := surv_mono p m c K k h1
      rw [survTo_succ, szL_append]; omega
theorem one_cell {w : World} {b : Nat} {x : Value} (h : w.cell? ⟨b, 0, none⟩ = some x) : ∀ (j : Nat) (u : Value), [x][j]? = some u → w.cell? ((⟨b, 0, none⟩ : Addr).add j) = some u := by
  intro j u hj
  cases j with
  | zero => simp at hj; subst hj; simpa [Addr.add] using h
  | succ j => simp at hj
theorem drew_below (w : World) : Below w.heap.size w w.drew := Below.drew (Below.refl _ _)
theorem region_cut11 {P : Program} {c : Code} {Q : Exit → Act → World → Prop} {a : Act} {w : World} (Post : Option Addr → Nat → World → Prop) (F : Option Addr → Nat → Nat → Option Addr → Nat → Option Addr → Nat → Nat → Nat → Option Addr → Nat → Act) (h1 : (∀ A5 c5 n1 A6 c6 A9 l9 c9 n2 A c w', Post A c w' → Q .normal (F A5 c5 n1 A6 c6 A9 l9 c9 n2 A c) w') → c.wp P Q a w) (h2 : ∀ A5 c5 n1 A6 c6 A9 l9 c9 n2 A c w', Post A c w' → Q .normal (F A5 c5 n1 A6 c6 A9 l9 c9 n2 A c) w') : c.wp P Q a w := h1 h2
theorem node_entry (xw : World) (u v : Value) : ∃ A0, ((xw.alloc (.cells #[u] 115)).alloc (.cells #[v] 22)).alloc (.cells #[.int .i64 0, .int .i64 0, .slice none 0 0] 64) = A0 ∧ Below xw.heap.size xw A0 ∧ A0.heap.size = xw.heap.size + 3 ∧
    A0.cell? ⟨xw.heap.size, 0, none⟩ = some u ∧ A0.cell? ⟨xw.heap.size + 1, 0, none⟩ = some v ∧ BoxAt A0 (xw.heap.size + 2) (.int .i64 0) (.int .i64 0) (.slice none 0 0) := by
  have f1 : (((xw.alloc (.cells #[u] 115)).alloc (.cells #[v] 22)).alloc (.cells #[.int .i64 0, .int .i64 0, .slice none 0 0] 64)).cell? ⟨xw.heap.size, 0, none⟩ = some u := (World.cell?_alloc_past _ _ 0 (by simp; omega)).trans ((World.cell?_alloc_past _ _ 0 (by simp)).trans ((World.cell?_alloc_at #[u] 115 _ 0 rfl).trans rfl))
  have f2 : (((xw.alloc (.cells #[u] 115)).alloc (.cells #[v] 22)).alloc (.cells #[.int .i64 0, .int .i64 0, .slice none 0 0] 64)).cell? ⟨xw.heap.size + 1, 0, none⟩ = some v := (World.cell?_alloc_past _ _ 0 (by simp)).trans ((World.cell?_alloc_at #[v] 22 _ 0 (by simp)).trans rfl)
  have hz : ((xw.alloc (.cells #[u] 115)).alloc (.cells #[v] 22)).heap.size = xw.heap.size + 2 := by simp
  refine ⟨_, rfl, (((Below.refl _ xw).alloc (Nat.le_refl _) _).alloc (by simp) _).alloc (by simp; omega) _, by simp, f1, f2, ?_⟩
  rw [← hz]
  exact ⟨by simp, World.cell?_alloc_at _ _ _ 0 rfl, World.cell?_alloc_at _ _ _ 1 rfl, World.cell?_alloc_at _ _ _ 2 rfl, World.frozen?_alloc_at _ _ _ 0 rfl, World.frozen?_alloc_at _ _ _ 1 rfl, World.frozen?_alloc_at _ _ _ 2 rfl⟩

/-- one cell -/
def OneAtS (A : World) (b : Nat) (u : Value) : Prop := b < A.heap.size ∧ A.cell? ⟨b, 0, none⟩ = some u
theorem OneAtS.grown {A C : World} {b : Nat} {u : Value} (h : OneAtS A b u) (hs : A.heap.size ≤ C.heap.size) (hk : C.heap[b]? = A.heap[b]?) : OneAtS C b u := ⟨Nat.lt_of_lt_of_le h.1 hs, (World.cell?_of_block (a := ⟨b, 0, none⟩) hk).trans h.2⟩
theorem OneAtS.below {A C : World} {b : Nat} {u : Value} (h : OneAtS A b u) (hb : Below A.heap.size A C) : OneAtS C b u := h.grown hb.size (hb.block b h.1)
theorem OneAtS.keeps1 {P : Nat → Prop} {A C : World} {b : Nat} {u : Value} (h : OneAtS A b u) (hk : Keeps1 P A C) (hb : ¬ P b) : OneAtS C b u := h.grown hk.1 (hk.2 b h.1 hb)
theorem OneAtS.alloc1 {A : World} {b : Nat} {u : Value} (h : OneAtS A b u) (o : Obj) : OneAtS (A.alloc o) b u := h.below (below_alloc1 _ _)
theorem OneAtS.drew1 {A : World} {b : Nat} {u : Value} (h : OneAtS A b u) : OneAtS A.drew b u := h.below (Below.drew (Below.refl _ _))
theorem oneS_new (w : World) (u : Value) : OneAtS (w.alloc (.cells #[u] 3)) w.heap.size u := ⟨by simp, World.cell?_alloc_at _ _ _ 0 rfl⟩
theorem oneS_new' (w : World) (n : Nat) (hn : n = w.heap.size) (u : Value) : OneAtS (w.alloc (.cells #[u] 3)) n u := by subst hn; exact oneS_new w u

set_option maxRecDepth 100000 in
set_option maxHeartbeats 8000000 in
theorem pnode_core {Wb : World} (p : Prob) (v0 v1 v2 : Value) (bs m : Nat) (hp : IsProb Wb v0 v1 v2 p) (hcap : ProbCap Wb v2) (hval : validP p = true) (hbs : Wb.heap.size ≤ bs) (hkid : ∀ m', m = m' + 1 → PNode Wb p v0 v1 v2 bs m') : PNode Wb p v0 v1 v2 bs m := by
  intro c hcl hco xw vf N hbx hf hs hN
  have hfX := hf.cov (cov_all _ _)
  obtain ⟨af, cf, rfl, lf, _⟩ := hfX.opened
  obtain ⟨ap, cp, rfl, lp, _⟩ := hp.panes.opened
  obtain ⟨ao, co, rfl, lo, _⟩ := hp.opts.opened
  obtain ⟨ar, cr, rfl, lr, _⟩ := hp.rules.opened
  have hsz1 : 1 ≤ szN (surv p m c) := by cases surv p m c; simp [szN]
  have hmf : ∀ (fn : Fn) (first cap : Array Value) (w : World), (Instr.makeFunc fn first cap).run Try.prog w = .ok (.func fn first cap) w := fun _ _ _ _ => rfl
  go_enter Try.func117, Try.ntmps117
  go_upto_region 1 with (fail)
  obtain ⟨A0, hA0, hb0, hsz0, m2, m3, m4⟩ := node_entry xw (.pointer (some ⟨bs, 0, none⟩)) (.slice af c.length cf)
  rw [hA0]
  obtain ⟨b2, hB2⟩ : ∃ b2, xw.heap.size = b2 := ⟨_, rfl⟩
  rw [hB2] at hsz0 m2 m3 m4
  rw [hB2]
  have hs0 := hs.below hb0
  have hbsb : bs < b2 := hB2 ▸ hs.lt
  obtain ⟨b3, hB3⟩ : ∃ b, b2 + 1 = b := ⟨_, rfl⟩
  obtain ⟨b4, hB4⟩ : ∃ b, b2 + 2 = b := ⟨_, rfl⟩
  rw [show b2 + 1 + 1 = b2 + 2 from rfl, hB3, hB4]
  rw [hB3] at m3
  rw [hB4] at m4
  have k0 := hs0.c3
  have kf := hs0.f3
  have klt := hs0.lt
  have n2 : b2 < A0.heap.size := by omega
  have n3 : b3 < A0.heap.size := by omega
  clear hA0
  go_upto_region 2 with (fail)
  obtain ⟨A1, hA1⟩ : ∃ A1, A0.setCell ⟨bs, 3, none⟩ (.int .i64 (↑N + 1)) = A1 := ⟨_, rfl⟩
  have g1 : xw.grownBy A1 (some bs) := by
    rw [← hA1]
    exact grown_trans ⟨hb0.os, hb0.tape, hb0.output, hb0.size, fun k hk _ => hb0.block k hk⟩ ⟨rfl, rfl, rfl, by simp [World.setCell], fun k _ hne => set_block (fun e => hne (by rw [e]))⟩
  have hs1 : SvAt A1 bs (.slice ap p.panes.length cp) (.slice ao p.opts.length co) (.slice ar p.rules.length cr) ((N + 1 : Nat) : Int) := by rw [← hA1]; exact hs0.set _
  have hbA : Below Wb.heap.size Wb A1 := by rw [← hA1]; exact (hbx.trans (hb0.mono hbx.size)).setCell (p := ⟨bs, 3, none⟩) hbs _
  have hsz1' : A1.heap.size = b2 + 3 := by rw [← hA1, ← hsz0]; simp [World.setCell]
  have c2 : ∀ y : Later A1, y.w.cell? ⟨b2, 0, none⟩ = some (.pointer (some ⟨bs, 0, none⟩)) := Later.cell (by omega) (by rw [← hA1]; exact (World.cell?_setCell_other _ _ _ _ (by simp)).trans m2)
  have c3 : ∀ y : Later A1, y.w.cell? ⟨b3, 0, none⟩ = some (.slice af c.length cf) := Later.cell (by omega) (by rw [← hA1]; exact (World.cell?_setCell_other _ _ _ _ (by simp)).trans m3)
  have B4 : BoxAt A1 b4 (.int .i64 0) (.int .i64 0) (.slice none 0 0) := by rw [← hA1]; exact m4.grown (by simp [World.setCell]) (set_block (by omega))
  have hF1 : IsInts (wout (fun k => decide (k = bs)) A1) (.slice af c.length cf) c := hf.cov (cov_out g1.size fun k hk hP => ⟨hP, g1.block k hk (fun e => by cases e; simp at hP)⟩)
  rw [hA1]
  have HF := Lib.hid (hF1.cov (cov_all _ _))
  have HP := Lib.hid (hp.below hbA)
  have HC := Lib.hid (hcap.below hp.rules hbA)
  have s2 : ∀ y : Later A1, b2 < y.w.heap.size := Later.size (by omega)
  have s3 : ∀ y : Later A1, b3 < y.w.heap.size := Later.size (by omega)
  have s4 : ∀ y : Later A1, b4 < y.w.heap.size := Later.size (by omega)
  have ss : ∀ y : Later A1, bs < y.w.heap.size := Later.size (by omega)
  have d0 : ∀ y : Later A1, y.w.cell? ⟨bs, 0, none⟩ = some (.slice ap p.panes.length cp) := Later.cell hs1.lt hs1.c0
  have d1 : ∀ y : Later A1, y.w.cell? ⟨bs, 1, none⟩ = some (.slice ao p.opts.length co) := Later.cell hs1.lt hs1.c1
  have d2 : ∀ y : Later A1, y.w.cell? ⟨bs, 2, none⟩ = some (.slice ar p.rules.length cr) := Later.cell hs1.lt hs1.c2
  have d3 : ∀ y : Later A1, y.w.cell? ⟨bs, 3, none⟩ = some (.int .i64 ((N + 1 : Nat) : Int)) := Later.cell hs1.lt hs1.c3
  have e0 : ∀ y : Later A1, y.w.cell? ⟨b4, 0, none⟩ = some (.int .i64 0) := Later.cell B4.lt B4.c0
  have e1 : ∀ y : Later A1, y.w.cell? ⟨b4, 1, none⟩ = some (.int .i64 0) := Later.cell B4.lt B4.c1
  have e2 : ∀ y : Later A1, y.w.cell? ⟨b4, 2, none⟩ = some (.slice none 0 0) := Later.cell B4.lt B4.c2
  have f0 : ∀ y : Later A1, y.w.frozen? ⟨b4, 0, none⟩ = false := Later.frozen B4.lt B4.f0
  have f1 : ∀ y : Later A1, y.w.frozen? ⟨b4, 1, none⟩ = false := Later.frozen B4.lt B4.f1
  have f2 : ∀ y : Later A1, y.w.frozen? ⟨b4, 2, none⟩ = false := Later.frozen B4.lt B4.f2
  have hG := Lib.hid g1
  have hS := Lib.hid hs1
  have hB4' := Lib.hid B4
  have hF1' := Lib.hid hF1
  replace hbA := Lib.hid hbA
  clear hA1 hb0 hsz0 m2 m3 m4 hs0 k0 kf klt n2 n3 A0 g1 hs1 B4 hF1 hfX hf hs hbx
  -- how a leaf ends
  have hleaf : Hid (∀ (y : Later A1) (kd ix : Int), surv p m c = .mk kd ix [] → SvPost bs (.slice ap p.panes.length cp) (.slice ao p.opts.length co) (.slice ar p.rules.length cr) (N + szN (surv p m c)) xw (surv p m c) (.returned (.agg #[.int .i64 kd, .int .i64 ix, .slice none 0 0])) (((y.w.setCell ⟨b4, 0, none⟩ (.int .i64 kd)).setCell ⟨b4, 1, none⟩ (.int .i64 ix)).setCell ⟨b4, 2, none⟩ (.slice none 0 0))) := Lib.hid (fun y kd ix he => by
    rw [he]
    have hb4 : xw.heap.size ≤ b4 := by omega
    refine ⟨_, rfl, ⟨_, _, _, rfl⟩, grown_setO (grown_setO (grown_setO (grown_below hG.out y.h) hb4 _ _) hb4 _ _) hb4 _ _, ?_, isNd_leaf _ _ _⟩
    have hne : bs ≠ b4 := by omega
    have h1 : szN (Nd.mk kd ix []) = 1 := by simp [szN, szL]
    rw [h1]
    exact (((hS.out.below y.h).of_block (by simp [World.setCell]) (set_block hne)).of_block (by simp [World.setCell]) (set_block hne)).of_block (by simp [World.setCell]) (set_block hne))
  show Code.wp _ _ _ _ (Later.now A1).w
  generalize Later.now A1 = x1
  have htw := Lib.hid (fun y : Later A1 => ptwin y _ _ _ _ p c HP.out HF.out (by omega) hco)
  have hbr := Lib.hid (fun y : Later A1 => pindexBr y _ _ _ _ p c b2 b3 bs HP.out HF.out hval HC.out hco c2 c3 d0 d1 d2)
  obtain ⟨ti, hti⟩ : ∃ n, twI p c = n := ⟨_, rfl⟩
  obtain ⟨tb, htb⟩ : ∃ b, twB p c = b := ⟨_, rfl⟩
  obtain ⟨bi, hbi⟩ : ∃ n, brI p c = n := ⟨_, rfl⟩
  rw [hti, htb] at htw
  rw [hbi] at hbr
  have hN9 : decide ((200000 : Int) < (N : Int) + 1) = false := by rw [decide_eq_false_iff_not]; omega
  have hN8 : ((N : Int) + 1 ≤ 200000) := by omega
  replace hN := Lib.hid hN
  go_upto_region 4 with (fail)
  refine wp_region_later x1 (by kernel_rfl) (by kernel_rfl) ?_
  repeat (go_big_quiet_step ((go_at_call 148; exact htw.out _)))
  refine wpQuiet_nil ?_
  rintro _ ⟨x1, rfl⟩
  cases tb
  case true => as_aux_lemma =>
    have hsv : Hid (surv p m c = .mk 3 ti []) := Lib.hid (by
      unfold twB at htb
      obtain ⟨i, hi⟩ := Option.isSome_iff_exists.1 htb
      have : twI p c = (i : Nat) := by unfold twI; rw [hi]
      rw [surv_twin hi, ← hti, this])
    go_wp2
    obtain ⟨t0, t1, t2⟩ := three_set (u0 := .int .i64 3) (u1 := .int .i64 ti) (u2 := .slice none 0 0) (e0 x1) (e1 x1) (e2 x1)
    refine bodyPost_ret (results_c1 rfl rfl (loadVar_node t0 t1 t2)) rfl ?_
    exact hleaf.out x1 3 ti hsv.out
  have htn : twinO p c = none := by unfold twB at htb; exact Option.isSome_eq_false_iff.1 htb |> Option.isNone_iff_eq_none.1
  replace htn := Lib.hid htn
  clear htb hti htw
  cases hbo : brokenO p c with
  | some i => as_aux_lemma =>
    have hbi2 : bi = (i : Nat) := by rw [← hbi]; unfold brI; rw [hbo]
    subst hbi2
    have hsv : Hid (surv p m c = .mk 4 (i : Nat) []) := Lib.hid (surv_rule htn.out hbo)
    replace hbo := Lib.hid hbo
    replace hbi := Lib.hid hbi
    go_wp2_with (go_at_call 144; refine (hbr.out _).mono ?_; rintro e w' ⟨rfl, x1, rfl⟩)
    obtain ⟨t0, t1, t2⟩ := three_set (u0 := .int .i64 4) (u1 := .int .i64 i) (u2 := .slice none 0 0) (e0 x1) (e1 x1) (e2 x1)
    refine bodyPost_ret (results_c1 rfl rfl (loadVar_node t0 t1 t2)) rfl ?_
    exact hleaf.out x1 4 i hsv.out
  | none =>
    have hbi2 : bi = -1 := by rw [← hbi]; unfold brI; rw [hbo]
    subst hbi2
    replace hbo := Lib.hid hbo
    replace hbi := Lib.hid hbi
    have hlen := Lib.hid (valid_len hval)
    go_upto_region 10 with (go_at_call 144; refine (hbr.out _).mono ?_; rintro e w' ⟨rfl, x1, rfl⟩)
    clear hbr
    cases m with
    | zero => as_aux_lemma =>
      have hsv : Hid (surv p 0 c = .mk 2 0 []) := Lib.hid (surv_leaf htn.out hbo.out)
      have hcp : c.length = p.panes.length := by have := hlen.out; omega
      have hcp2 : ((c.length : Int) == (p.panes.length : Int)) = true := by simp [hcp]
      replace hcp := Lib.hid hcp
      refine wp_region_later x1 (by kernel_rfl) (by kernel_rfl) ?_
      repeat (go_big_quiet_step (fail))
      refine wpQuiet_nil ?_
      rintro _ ⟨x1, rfl⟩
      go_wp2
      obtain ⟨t0, t1, t2⟩ := three_set (u0 := .int .i64 2) (u1 := .int .i64 0) (u2 := .slice none 0 0) (e0 x1) (e1 x1) (e2 x1)
      refine bodyPost_ret (results_c1 rfl rfl (loadVar_node t0 t1 t2)) rfl ?_
      exact hleaf.out x1 2 0 hsv.out
    | succ m =>
      have hcp : c.length < p.opts.length := by omega
      have hcp2 : ((c.length : Int) == (p.panes.length : Int)) = false := by have := hlen.out; simp; omega
      obtain ⟨_, _, hqq, _, hopts⟩ := HP.out.opts.opened
      cases hqq
      obtain ⟨bo, oo, rfl, hbo', uo, co0, hO⟩ := hopts.out c.length hcp
      obtain ⟨av, cv, rfl, lv, _⟩ := hO.opened
      clear hO hopts
      refine wp_region_later x1 (by kernel_rfl) (by kernel_rfl) ?_
      repeat (go_big_quiet_step (fail))
      refine wpQuiet_nil ?_
      rintro _ ⟨x1, rfl⟩
      go_upto_region 13 with (fail)
      obtain ⟨b8, hB8⟩ : ∃ b, x1.w.heap.size = b := ⟨_, rfl⟩
      obtain ⟨Wc, hWc⟩ : ∃ V, x1.w.alloc (.cells #[.int .i64 1, .int .i64 c.length, .slice none 0 0] 64) = V := ⟨_, rfl⟩
      have hbc : Below A1.heap.size A1 Wc := by rw [← hWc]; exact x1.h.alloc x1.h.size _
      have h8A : A1.heap.size ≤ b8 := hB8 ▸ x1.h.size
      have B8 : BoxAt Wc b8 (.int .i64 1) (.int .i64 c.length) (.slice none 0 0) := by
        rw [← hWc, ← hB8]
        exact ⟨by simp, World.cell?_alloc_at _ _ _ 0 rfl, World.cell?_alloc_at _ _ _ 1 rfl, World.cell?_alloc_at _ _ _ 2 rfl, World.frozen?_alloc_at _ _ _ 0 rfl, World.frozen?_alloc_at _ _ _ 1 rfl, World.frozen?_alloc_at _ _ _ 2 rfl⟩
      rw [hWc, hB8]
      clear hWc hB8 x1
      replace hS := Lib.hid (hS.out.below hbc)
      have hgc : A1.grownBy Wc (some bs) := ⟨hbc.os, hbc.tape, hbc.output, hbc.size, fun k hk _ => hbc.block k hk⟩
      obtain ⟨K, hK⟩ : ∃ K, (nth p.opts c.length).length = K := ⟨_, rfl⟩
      have hsz : Hid (szN (surv p (m + 1) c) = 1 + szL (survTo p m c K)) := Lib.hid (by rw [surv_branch htn.out hbo.out, hK]; rfl)
      have hsv : Hid (surv p (m + 1) c = .mk 1 c.length (survTo p m c K)) := Lib.hid (by rw [surv_branch htn.out hbo.out, hK])
      have hKb : K ≤ 300 := by rw [← hK]; have := (valid_opts hval hcp).2; omega
      have p2 := Later.cells hbc c2
      have p3 := Later.cells hbc c3
      have pd1 := Later.cells hbc d1
      have pc0 := Later.cells hbc co0
      have ps2 := Later.sizes hbc s2
      have ps3 := Later.sizes hbc s3
      have pss := Later.sizes hbc ss
      have psb := Later.sizes hbc hbo'
      rw [hK] at pc0
      replace hK := Lib.hid hK
      replace B8 := Lib.hid B8
      replace hgc := Lib.hid hgc
      replace hbc := Lib.hid hbc
      show Code.wp _ _ _ _ (Later.now Wc).w
      generalize Later.now Wc = x1
      refine wp_region_later x1 (by kernel_rfl) (by kernel_rfl) ?_
      repeat (go_big_quiet_step (fail))
      refine wpQuiet_nil ?_
      rintro _ ⟨x1, rfl⟩
      go_wp2
      have hgx := hgc.out
      replace hgx := grown_below hgx x1.h
      have hbx8 := B8.out.below x1.h
      have hsx := hS.out.below x1.h
      clear p2 p3 pd1 pc0 ps2 ps3 pss psb hgc B8 hS hbc
      go_loopw [70] (fun iv wr => ∃ k : Nat, k ≤ K ∧ iv = .int .i64 k ∧ A1.grownBy wr (some bs) ∧ ∃ v, BoxAt wr b8 (.int .i64 1) (.int .i64 c.length) v ∧ KidRow wr b8 b8 v (survTo p m c k) ∧ SvAt wr bs (.slice ap p.panes.length cp) (.slice (some ⟨bo, oo, none⟩) p.opts.length co) (.slice ar p.rules.length cr) ((N + 1 + szL (survTo p m c k) : Nat) : Int)) (fun iv _ => K - (intOf iv).toNat)
      case atStart => exact ⟨0, Nat.zero_le _, rfl, hgx, _, hbx8, KidRow.nil _ _ _, hsx⟩
      case round =>
        clear hgx hbx8 hsx x1
        obtain ⟨k, hkK, rfl, hg, v, hbx, hrow, hsv1⟩ := hrel
        by_cases hlt : k < K
        · have hE8 : b2 < b8 ∧ b3 < b8 ∧ b4 < b8 ∧ bs < b8 := by omega
          have hD : Below wr.heap.size wr wr.drew := drew_below wr
          have hw2 : wr.cell? ⟨b2, 0, none⟩ = some (.pointer (some ⟨bs, 0, none⟩)) := (World.cell?_of_block (a := ⟨b2, 0, none⟩) (hg.block b2 (by omega) (fun e => by cases e; omega))).trans (c2 (Later.now A1))
          have hw3 : wr.cell? ⟨b3, 0, none⟩ = some (.slice af c.length cf) := (World.cell?_of_block (a := ⟨b3, 0, none⟩) (hg.block b3 (by omega) (fun e => by cases e; omega))).trans (c3 (Later.now A1))
          have hwz : b2 < wr.heap.size ∧ b3 < wr.heap.size := by have := hg.size; omega
          have hf : IsInts (wout (fun k => decide (k = bs)) wr) (.slice af c.length cf) c := hF1'.out.cov (cov_out hg.size fun k hk hP => ⟨hP, hg.block k hk (fun e => by cases e; simp at hP)⟩)
          have hbw : Below Wb.heap.size Wb wr := hbA.out.grown hg hbA.out.size (fun k hk => by cases hk; exact hbs)
          have hn9 := survTo_len p m c k
          have hstep : Hid (survTo p m c (k + 1) = survTo p m c k ++ [surv p m (c ++ [(k : Int)])]) := Lib.hid (survTo_succ p m c k)
          have hszk : Hid (szL (survTo p m c (k + 1)) = szL (survTo p m c k) + szN (surv p m (c ++ [(k : Int)]))) := Lib.hid (by rw [hstep.out, szL_append]; simp [szL])
          have hle : N + 1 + szL (survTo p m c k) + szN (surv p m (c ++ [(k : Int)])) ≤ 200000 := by
            have h1 := surv_mono p m c K (k + 1) (by omega)
            have h2 := hszk.out
            have h3 := hsz.out
            have h4 := hN.out
            omega
          have hc64 := valid_pane64 hval
          have hlen' := hlen.out
          have hb8w : b8 < wr.heap.size := hbx.lt
          have hlt2 := Lib.hid (fun g hg => (let ⟨us, h1, _⟩ := hrow.row; (h1.lt g hg).2 : g < wr.heap.size))
          obtain ⟨tk, htk⟩ : ∃ q, surv p m (c ++ [(k : Int)]) = q := ⟨_, rfl⟩
          have hcl3 : Hid (∀ (X : World) (_ : Below wr.heap.size wr X), Calls Try.prog 68 #[.slice af c.length cf] X (fun e w' => ∃ u, e = .returned u ∧ ∃ y : Later wr, w' = y.w ∧ Below X.heap.size X y.w ∧ y.w.ownsRow wr.heap.size 3 1 u c.length (c.map (Value.int .i64)))) := Lib.hid (fun X hb => (pcloneI (Later.now X) _ c ((hf.cov (cov_all _ _)).below hb)).mono (fun e w' ⟨u, h1, y, h2, h3⟩ => ⟨u, h1, ⟨y.w, hb.trans (y.h.mono hb.size)⟩, h2, y.h, owns_mono h3 hb.size⟩))
          have hbsw : bs < wr.heap.size := hsv1.lt
          have hgy := Lib.hid (fun y : Later wr => grown_below hg y.h)
          have hIH := Lib.hid (fun (y : Later wr) (vf : Value) (hi : IsInts (wout (fun k => decide (k = bs)) y.w) vf (c ++ [(k : Int)])) => hkid m rfl (c ++ [(k : Int)]) (by simp; omega) (fun i hi => by
            rw [List.length_append, List.length_singleton] at hi
            rcases Nat.lt_succ_iff_lt_or_eq.1 hi with h3 | rfl
            · rw [nth_append_left h3]; exact hco i h3
            · rw [nth_snoc]; have := hK.out; omega) y.w vf (N + 1 + szL (survTo p m c k)) (hbw.trans (y.h.mono hbw.size)) hi (hsv1.below y.h) hle)
          rw [htk] at hIH hstep hszk
          obtain ⟨kN, hkN⟩ : ∃ q, tk.kind = q := ⟨_, rfl⟩
          obtain ⟨kI, hkI⟩ : ∃ q, tk.index = q := ⟨_, rfl⟩
          have hIH2 := Lib.hid (fun (y : Later wr) (vf : Value) (hi : IsInts (wout (fun k => decide (k = bs)) y.w) vf (c ++ [(k : Int)])) => (hIH.out y vf hi).mono (R' := fun e w' => ∃ q, e = .returned (.agg #[.int .i64 kN, .int .i64 kI, q]) ∧ isSl q ∧ y.w.grownBy w' (some bs) ∧ SvAt w' bs (.slice ap p.panes.length cp) (.slice (some ⟨bo, oo, none⟩) p.opts.length co) (.slice ar p.rules.length cr) (N + 1 + szL (survTo p m c k) + szN tk : Nat) ∧ IsNd (wout (fun k => decide (k < y.w.heap.size)) w') q tk) (fun e w' h => by rw [← hkN, ← hkI]; exact h))
          have hSKA : Hid (∀ w' : World, A1.grownBy w' (some bs) → (w'.cell? ⟨b2, 0, none⟩ = some (.pointer (some ⟨bs, 0, none⟩)) ∧ w'.cell? ⟨b3, 0, none⟩ = some (.slice af c.length cf))) := Lib.hid (fun w' h => ⟨(World.cell?_of_block (a := ⟨b2, 0, none⟩) (h.block b2 (by omega) (fun e => by cases e; omega))).trans (c2 (Later.now A1)), (World.cell?_of_block (a := ⟨b3, 0, none⟩) (h.block b3 (by omega) (fun e => by cases e; omega))).trans (c3 (Later.now A1))⟩)
          have hSKb := Lib.hid (fun (w' : World) (h : Below wr.heap.size wr w') => hSKA.out w' (grown_below hg h))
          have e12 := hbx.c2
          replace hD := Lib.hid hD
          replace hbx := Lib.hid hbx
          replace hrow := Lib.hid hrow
          replace hsv1 := Lib.hid hsv1
          replace hg := Lib.hid hg
          replace hn9 := Lib.hid hn9
          have hn300 : (survTo p m c k).length ≤ 300 := by have := hn9.out; omega
          replace hlen' := Lib.hid hlen'
          have hc64' : c.length ≤ 64 := by have := hlen.out; omega
          clear hc64 hIH hf
          go_upto_region 16 with (fail)
          conv in (Oper.mk (some 74) _ _ _ _ _) => change id _
          go_region_held3 (fun w' => w'.cell? ⟨b2, 0, none⟩ = some (.pointer (some ⟨bs, 0, none⟩)) ∧ w'.cell? ⟨b3, 0, none⟩ = some (.slice af c.length cf)) ((first | exact hSA | exact hSKA.out _ hst2.out.1 | (refine hSKA.out _ (grown_below hG7.out ?_); first | exact Below.refl _ _ | exact below_alloc1 _ _) | (refine hSKb.out _ ?_; ((try refine Below.drew ?_); (repeat (first | exact Later.h _ | exact Below.refl _ _ | refine Below.alloc ?_ (by first | omega | (simp; done) | (simp; omega)) _)))))) (first | (have hx := hnd7; clear hx; obtain ⟨us, ho1, ho2, ho3⟩ := hrow7.out.row; refine step_appN rfl (.tmp 74) (.tmp 82) 62 rfl 64 _ 3 40 Try.info64 rfl (by decide) Try.underlying62 v (survTo p m c k).length (us.flatMap ndCells) b8 ho1 (Nat.le_of_lt hb7.out.lt) ⟨w7.heap.size, 0, none⟩ 1 1 (ndCells (tk, .slice A9 l9 c9)) rfl (by simp [Act.eval]) (by simp [Act.eval]) (by rw [← hkN, ← hkI]; exact cells_new _ _ _) (by simp [ndCells, Value.oneCell']) (by omega) (by omega) ?_; intro v' w' ho hgr h5; obtain ⟨A10, c10, rfl⟩ := owns_slice ho; have hst := kid_step hg17.out h8A (by omega) hb7.out hsv7.out ho2 ho3 hrow7.out.ne (n := y2.w.heap.size) (Nat.lt_of_lt_of_le hb8w hy2) (fun g hg' => Nat.lt_of_lt_of_le (hlt2.out g hg') hy2) _ tk hnd7.out ho hgr h5; have e82 := hst.1.c2; have f82 := hst.1.f2; have n88 := hst.1.lt; have hSA := hSKA.out _ (grown_row hg17.out hgr (fun g hg' => by have := hrow7.out.ne g hg'; omega)); have hst2 := Lib.hid hst.2; clear hst ho hgr h5 ho1 ho2 ho3 hnd7) | (have hx := ho2; clear hx; have hI6 := (ints_fresh ho2 (by omega)).cov (cov_fresh (P := fun q => decide (q = bs)) fun q hq => by simp; omega); go_simp; go_at_call 117; refine (hIH2.out y2 _ hI6).mono ?_; rintro e w7 ⟨_, rfl, ⟨A9, l9, c9, rfl⟩, hg7, hs7, hn7⟩; have hbx7 := (hbx.out.below y2.h).grown hg7.size (hg7.block b8 (hbx.out.below y2.h).lt (fun e => by cases e; omega)); have e72 := hbx7.c2; have n78 := hbx7.lt; have hrow7 := Lib.hid (((hrow.out.below y2.h).grown (s := bs) (by omega) hg7).below (below_alloc1 w7 (.cells #[.int .i64 kN, .int .i64 kI, .slice A9 l9 c9] 64))); have hb7 := Lib.hid (hbx7.below (below_alloc1 w7 (.cells #[.int .i64 kN, .int .i64 kI, .slice A9 l9 c9] 64))); have hsv7 := Lib.hid (hs7.below (below_alloc1 w7 (.cells #[.int .i64 kN, .int .i64 kI, .slice A9 l9 c9] 64))); have hnd7 := Lib.hid (hn7.cov (cov_below (below_alloc1 w7 (.cells #[.int .i64 kN, .int .i64 kI, .slice A9 l9 c9] 64))) _); have hG7 := Lib.hid (grown_trans (hgy.out y2) hg7); have hg17 := Lib.hid (grown_below (grown_trans (hgy.out y2) hg7) (below_alloc1 w7 (.cells #[.int .i64 kN, .int .i64 kI, .slice A9 l9 c9] 64))); clear hg7 hs7 hn7 hbx7 hI6 ho2; try dsimp only) | (have hx := ho1; clear hx; refine step_app2 wr (by ((try refine Below.drew ?_); (repeat (first | exact Later.h _ | exact Below.refl _ _ | refine Below.alloc ?_ (by first | omega | (simp; done) | (simp; omega)) _)))) rfl (.tmp 77) (.tmp 79) rfl A5 c5 c (by first | exact ho1 | exact owns_later ho1 (below_alloc1 _ _)) _ k (by first | exact ho.2 | exact (oneS_new _ _).2 | exact (oneS_new' _ _ (by simp) _).2) (by omega) rfl rfl ?_; intro A6 c6 y2 ho2 hk2; have hy2 : wr.heap.size ≤ y2.w.heap.size := y2.h.size; have hbx6 := hbx.out.below y2.h; have e62 := hbx6.c2; have n68 := hbx6.lt; clear hbx6 hk2 ho1) | (go_simp; go_at_call 68; refine (hcl3.out _ (by ((try refine Below.drew ?_); (repeat (first | exact Later.h _ | exact Below.refl _ _ | refine Below.alloc ?_ (by first | omega | (simp; done) | (simp; omega)) _))))).mono ?_; rintro e w' ⟨u, rfl, y1, rfl, hY, hown⟩; obtain ⟨A5, c5, rfl⟩ := owns_slice hown; have ho1 := hown; have hy1 : wr.heap.size ≤ y1.w.heap.size := y1.h.size; have hbx5 := hbx.out.below y1.h; have e52 := hbx5.c2; have n58 := hbx5.lt; (first | (have ho := (oneS_new _ (Value.int .i64 k)).drew1.below hY; try simp at ho) | skip); clear hbx5 hown hY; try dsimp only) | fail)
          all_goals as_aux_lemma =>
            obtain ⟨hgA, hbA', hsA, hrA⟩ := hst2.out
            replace hgA := Lib.hid hgA
            replace hbA' := Lib.hid hbA'
            replace hsA := Lib.hid hsA
            replace hrA := Lib.hid hrA
            clear e82 f82 n88 e72 n78 e62 n68 hSA hst2
            go_wp2
            go_roundw
            case rel => exact ⟨k + 1, by omega, by go_num, hgA.out, _, hbA'.out, by rw [hstep.out]; exact hrA.out, by rw [hszk.out, ← Nat.add_assoc]; exact hsA.out⟩
            case measure => simp [intOf]; omega
        · as_aux_lemma =>
          obtain rfl : k = K := by omega
          have hB4w := hB4'.out.grown hg.size (hg.block b4 hB4'.out.lt (fun e => by cases e; omega))
          obtain ⟨us, hu1, hu2, hu3⟩ := hrow.row
          obtain ⟨A8, c8, rfl⟩ := owns_slice hu1
          clear hu1 hu2 hu3 us
          have hnl := survTo_len p m c k
          have hend := hrow.is (by omega) 1 c.length
          replace hnl := Lib.hid hnl
          have q0 := hbx.c0
          have q1 := hbx.c1
          have q2 := hbx.c2
          have n8 := hbx.lt
          have r0 := hB4w.f0
          have r1 := hB4w.f1
          have r2 := hB4w.f2
          have m0 := hB4w.c0
          have m1 := hB4w.c1
          have m2 := hB4w.c2
          have m4 := hB4w.lt
          replace hend := Lib.hid hend
          replace hrow := Lib.hid hrow
          replace hsv1 := Lib.hid hsv1
          replace hg := Lib.hid hg
          have hb84 : b4 < b8 := by omega
          have hbs8 : bs ≠ b4 := by omega
          have hxb4 : xw.heap.size ≤ b4 := by omega
          have hxb8 : xw.heap.size ≤ b8 := by omega
          clear hbx hB4w
          go_wp2
          obtain ⟨t0, t1, t2⟩ := three_set (u0 := .int .i64 1) (u1 := .int .i64 c.length) (u2 := .slice A8 (survTo p m c k).length c8) m0 m1 m2
          refine bodyPost_ret (results_c1 rfl rfl (loadVar_node t0 t1 t2)) rfl ?_
          rw [hsz.out, hsv.out]
          refine ⟨_, rfl, ⟨_, _, _, rfl⟩, grown_setO (grown_setO (grown_setO (grown_trans hG.out hg.out) hxb4 _ _) hxb4 _ _) hxb4 _ _, ?_, ?_⟩
          · have h := ((hsv1.out.of_block (by simp [World.setCell]) (set_block (o := 0) (u := .int .i64 1) hbs8)).of_block (by simp [World.setCell]) (set_block (o := 1) (u := .int .i64 c.length) hbs8)).of_block (by simp [World.setCell]) (set_block (o := 2) (u := .slice A8 (survTo p m c k).length c8) hbs8)
            rw [Nat.add_assoc] at h
            exact h
          · refine hend.out.cov (cov_out (by simp [World.setCell]) fun k hk hP => ?_) _
            have h8 := (hidB_no.1 hP).1
            refine ⟨by simp; omega, ?_⟩
            rw [set_block (by omega), set_block (by omega), set_block (by omega)]
end Go.Proofs.Ytmpkbolabdmkkaa
