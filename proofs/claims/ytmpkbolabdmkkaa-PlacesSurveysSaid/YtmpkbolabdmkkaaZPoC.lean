/- CONTRACT of places' Only. -/
import Derived.Test.YtmpkbolabdmkkaaZPoB
namespace Go.Proofs.Ytmpkbolabdmkkaa
open Go.RowKit

theorem region_cut5 {P : Program} {c : Code} {Q : Exit → Act → World → Prop} {a : Act} {w : World} (Post : Option Addr → Nat → Nat → Option Addr → Nat → World → Prop) (F : Option Addr → Nat → Nat → Option Addr → Nat → Act) (h1 : (∀ A c b A' c' w', Post A c b A' c' w' → Q .normal (F A c b A' c') w') → c.wp P Q a w) (h2 : ∀ A c b A' c' w', Post A c b A' c' w' → Q .normal (F A c b A' c') w') : c.wp P Q a w := h1 h2
theorem Later.setO {W : World} (x : Later W) {b : Nat} (hb : W.heap.size ≤ b) (o : Nat) (v : Value) : ∃ y : Later W, x.w.setCell ⟨b, o, none⟩ v = y.w := ⟨⟨_, x.h.setCell (p := ⟨b, o, none⟩) hb v⟩, rfl⟩
theorem results_ct {fn : Func} {b : Nat} {c u : Tmp} {ty : TypeId} {tmps : Array Value} {w : World} {v : Value} (h : fn.results = #[.cell c ty, .tmp u]) (hc : tmps.getD c undef = .pointer (some ⟨b, 0, none⟩))
    (h2 : (loadVar ty ⟨b, 0, none⟩).run Try.prog w = .ok v w) : (results fn tmps).run Try.prog w = .ok (.tuple #[v, tmps.getD u undef]) w := by
  rw [Array.getD_eq_getD_getElem?] at hc
  simp only [results, h]
  simp [Result.andThen, hc, asAddr, h2]
theorem loadVar_prob {b : Nat} {w : World} {v0 v1 v2 : Value} (h0 : w.cell? ⟨b, 0, none⟩ = some v0) (h1 : w.cell? ⟨b, 1, none⟩ = some v1) (h2 : w.cell? ⟨b, 2, none⟩ = some v2) : (loadVar 26 ⟨b, 0, none⟩).run Try.prog w = .ok (.agg #[v0, v1, v2]) w := by go_simp
/-- three cells stored, and read -/
theorem three_set {w : World} {b : Nat} {v0 v1 v2 u0 u1 u2 : Value} (h0 : w.cell? ⟨b, 0, none⟩ = some v0) (h1 : w.cell? ⟨b, 1, none⟩ = some v1) (h2 : w.cell? ⟨b, 2, none⟩ = some v2) :
    (((w.setCell ⟨b, 0, none⟩ u0).setCell ⟨b, 1, none⟩ u1).setCell ⟨b, 2, none⟩ u2).cell? ⟨b, 0, none⟩ = some u0 ∧ (((w.setCell ⟨b, 0, none⟩ u0).setCell ⟨b, 1, none⟩ u1).setCell ⟨b, 2, none⟩ u2).cell? ⟨b, 1, none⟩ = some u1 ∧ (((w.setCell ⟨b, 0, none⟩ u0).setCell ⟨b, 1, none⟩ u1).setCell ⟨b, 2, none⟩ u2).cell? ⟨b, 2, none⟩ = some u2 := by
  have g1 : (w.setCell ⟨b, 0, none⟩ u0).cell? ⟨b, 1, none⟩ = some v1 := (World.cell?_setCell_other _ _ _ _ (fun e => by cases e)).trans h1
  have g2 : ((w.setCell ⟨b, 0, none⟩ u0).setCell ⟨b, 1, none⟩ u1).cell? ⟨b, 2, none⟩ = some v2 := (World.cell?_setCell_other _ _ _ _ (fun e => by cases e)).trans ((World.cell?_setCell_other _ _ _ _ (fun e => by cases e)).trans h2)
  refine ⟨?_, ?_, World.cell?_setCell_same _ _ _ g2⟩
  · exact (World.cell?_setCell_other _ _ _ _ (fun e => by cases e)).trans ((World.cell?_setCell_other _ _ _ _ (fun e => by cases e)).trans (World.cell?_setCell_same _ _ _ h0))
  · exact (World.cell?_setCell_other _ _ _ _ (fun e => by cases e)).trans (World.cell?_setCell_same _ _ _ g1)

/-- a list of options appended, and the row put into the box -/
theorem opt_step {Wb A w' : World} {b n : Nat} {v0 v1 v2 v' : Value} {l : List (List Opt)} {us : List Value} (hb : Wb.heap.size = b) (zA : Later Wb) (hA : A = zA.w) (hbx : BoxAt A b v0 v1 v2) (h2 : us.length = l.length)
    (h3 : ∀ i, i < l.length → ∃ u, us[i]? = some u ∧ IsOpts (wout (hidB b v1.ownBlock) A) u (nth l i)) (hne : ∀ g, v1.ownBlock = some g → b < g) (hbn : b < n) (hv : ∀ g, v1.ownBlock = some g → g < n) (u : Value) (g : List Opt) (hu : IsOpts (wout (fun k => decide (k < n)) A) u g)
    (ho : w'.ownsRow b 39 1 v' (l.length + 1) (us ++ [u])) (hg : A.grownBy w' v1.ownBlock) (h5 : v'.ownBlock = v1.ownBlock ∨ v'.ownBlock = some A.heap.size) :
    BoxAt w' b v0 v1 v2 ∧ ∃ y : Later Wb, w'.setCell ⟨b, 1, none⟩ v' = y.w ∧ BoxAt y.w b v0 v' v2 ∧ OptRow y.w b b v' (l ++ [g]) := by
  have hbw : BoxAt w' b v0 v1 v2 := hbx.grown hg.size (hg.block b hbx.lt (fun e => by have := hne b e.symm; omega))
  subst hA
  obtain ⟨y1, rfl⟩ := zA.grown hg (fun k hk => by have := hne k hk; omega)
  obtain ⟨y2, hy2⟩ := y1.setO (b := b) (by rw [hb]; exact Nat.le_refl _) 1 v'
  refine ⟨hbw, y2, hy2, ?_, ?_⟩
  · rw [← hy2]; exact hbw.set1 _
  · rw [← hy2]; exact (OptRow.app h2 h3 hne hbn hv u g hu hbx.lt ho hg h5).set _

theorem region_cut6 {P : Program} {c : Code} {Q : Exit → Act → World → Prop} {a : Act} {w : World} (Post : Option Addr → Nat → Option Addr → Nat → Option Addr → Nat → World → Prop) (F : Option Addr → Nat → Option Addr → Nat → Option Addr → Nat → Act) (h1 : (∀ A c B d C e w', Post A c B d C e w' → Q .normal (F A c B d C e) w') → c.wp P Q a w) (h2 : ∀ A c B d C e w', Post A c B d C e w' → Q .normal (F A c B d C e) w') : c.wp P Q a w := h1 h2
/-- a rule's seven cells -/
structure RlBox (w : World) (b : Nat) (u2 u3 u6 : Value) (r : Rl) : Prop where
  lt : b < w.heap.size
  k0 : w.cell? ⟨b, 0, none⟩ = some (.int .i64 r.item)
  k1 : w.cell? ⟨b, 1, none⟩ = some (.int .i64 r.kind)
  k2 : w.cell? ⟨b, 2, none⟩ = some u2
  k3 : w.cell? ⟨b, 3, none⟩ = some u3
  k4 : w.cell? ⟨b, 4, none⟩ = some (.int .i64 r.lo)
  k5 : w.cell? ⟨b, 5, none⟩ = some (.int .i64 r.hi)
  k6 : w.cell? ⟨b, 6, none⟩ = some u6
theorem rul_copy {W0 w3 : World} {b n : Nat} {o2 o3 o6 u2 u3 u6 : Value} {r : Rl} (hb : W0.heap.size = b) (h : Below W0.heap.size W0 w3) (hx : RlBox w3 b o2 o3 o6 r) (hbn : b < n) (hu : IsRl (wout (fun k => decide (k < n)) w3) u2 u3 u6 r) :
    ∃ y : Later W0, ((w3.setCell ⟨b, 2, none⟩ u2).setCell ⟨b, 3, none⟩ u3).setCell ⟨b, 6, none⟩ u6 = y.w ∧ RlBox y.w b u2 u3 u6 r ∧ IsRl (wout (fun k => decide (k < n)) y.w) u2 u3 u6 r := by
  obtain ⟨y1, hy1⟩ := Later.setO ⟨w3, h⟩ (b := b) (by omega) 2 u2
  obtain ⟨y2, hy2⟩ := y1.setO (b := b) (by omega) 3 u3
  obtain ⟨y3, hy3⟩ := y2.setO (b := b) (by omega) 6 u6
  change w3.setCell _ _ = _ at hy1
  have hP : (fun k => decide (k < n)) b = true := by simpa using hbn
  have c1 : RlBox y1.w b u2 o3 o6 r := by
    rw [← hy1]
    exact ⟨by simpa [World.setCell] using hx.lt, (World.cell?_setCell_other _ _ _ _ (fun e => by cases e)).trans hx.k0, (World.cell?_setCell_other _ _ _ _ (fun e => by cases e)).trans hx.k1, World.cell?_setCell_same _ _ _ hx.k2, (World.cell?_setCell_other _ _ _ _ (fun e => by cases e)).trans hx.k3, (World.cell?_setCell_other _ _ _ _ (fun e => by cases e)).trans hx.k4, (World.cell?_setCell_other _ _ _ _ (fun e => by cases e)).trans hx.k5, (World.cell?_setCell_other _ _ _ _ (fun e => by cases e)).trans hx.k6⟩
  have c2 : RlBox y2.w b u2 u3 o6 r := by
    rw [← hy2]
    exact ⟨by simpa [World.setCell] using c1.lt, (World.cell?_setCell_other _ _ _ _ (fun e => by cases e)).trans c1.k0, (World.cell?_setCell_other _ _ _ _ (fun e => by cases e)).trans c1.k1, (World.cell?_setCell_other _ _ _ _ (fun e => by cases e)).trans c1.k2, World.cell?_setCell_same _ _ _ c1.k3, (World.cell?_setCell_other _ _ _ _ (fun e => by cases e)).trans c1.k4, (World.cell?_setCell_other _ _ _ _ (fun e => by cases e)).trans c1.k5, (World.cell?_setCell_other _ _ _ _ (fun e => by cases e)).trans c1.k6⟩
  have c3 : RlBox y3.w b u2 u3 u6 r := by
    rw [← hy3]
    exact ⟨by simpa [World.setCell] using c2.lt, (World.cell?_setCell_other _ _ _ _ (fun e => by cases e)).trans c2.k0, (World.cell?_setCell_other _ _ _ _ (fun e => by cases e)).trans c2.k1, (World.cell?_setCell_other _ _ _ _ (fun e => by cases e)).trans c2.k2, (World.cell?_setCell_other _ _ _ _ (fun e => by cases e)).trans c2.k3, (World.cell?_setCell_other _ _ _ _ (fun e => by cases e)).trans c2.k4, (World.cell?_setCell_other _ _ _ _ (fun e => by cases e)).trans c2.k5, World.cell?_setCell_same _ _ _ c2.k6⟩
  refine ⟨y3, by rw [hy1, hy2, hy3], c3, ?_⟩
  rw [← hy3, ← hy2, ← hy1]
  exact ((hu.cov (cov_set hP)).cov (cov_set hP)).cov (cov_set hP)
theorem rul_step {Wb A w' : World} {b n : Nat} {v0 v1 v2 v' : Value} {os : List (List Opt)} {l : List Rl} {us : List (Rl × Value × Value × Value)} (hb : Wb.heap.size = b) (zA : Later Wb) (hA : A = zA.w) (hbx : BoxAt A b v0 v1 v2) (hOS : IsOptss (wout (hidB b v2.ownBlock) A) v1 os) (h2 : us.map Prod.fst = l)
    (h3 : ∀ x ∈ us, IsRl (wout (hidB b v2.ownBlock) A) x.2.1 x.2.2.1 x.2.2.2 x.1) (hne : ∀ g, v2.ownBlock = some g → b < g) (hbn : b < n) (hv : ∀ g, v2.ownBlock = some g → g < n) (u2 u3 u6 : Value) (g : Rl) (hu : IsRl (wout (fun k => decide (k < n)) A) u2 u3 u6 g)
    (ho : w'.ownsRow b 87 7 v' (l.length + 1) (us.flatMap rlCells ++ rlCells (g, u2, u3, u6))) (hg : A.grownBy w' v2.ownBlock) (h5 : v'.ownBlock = v2.ownBlock ∨ v'.ownBlock = some A.heap.size) :
    BoxAt w' b v0 v1 v2 ∧ ∃ y : Later Wb, w'.setCell ⟨b, 2, none⟩ v' = y.w ∧ BoxAt y.w b v0 v1 v' ∧ IsOptss (wout (hidB b v'.ownBlock) y.w) v1 os ∧ RulRow y.w b b v' (l ++ [g]) := by
  have hbw : BoxAt w' b v0 v1 v2 := hbx.grown hg.size (hg.block b hbx.lt (fun e => by have := hne b e.symm; omega))
  have hcov : Cov (wout (hidB b v2.ownBlock) A) (wout (hidB b v'.ownBlock) w') := cov_out hg.size fun k hk hP => by
    obtain ⟨k1, k2⟩ := hidB_no.1 hP
    refine ⟨hidB_no.2 ⟨k1, ?_⟩, hg.block k hk (Ne.symm k2)⟩
    rcases h5 with h5 | h5
    · rw [h5]; exact k2
    · rw [h5]; intro e; cases e; omega
  subst hA
  obtain ⟨y1, rfl⟩ := zA.grown hg (fun k hk => by have := hne k hk; omega)
  obtain ⟨y2, hy2⟩ := y1.setO (b := b) (by rw [hb]; exact Nat.le_refl _) 2 v'
  refine ⟨hbw, y2, hy2, ?_, ?_, ?_⟩
  · rw [← hy2]; exact hbw.set2 _
  · rw [← hy2]; exact (hOS.cov hcov).cov (cov_set (by simp [hidB]))
  · rw [← hy2]; exact (RulRow.app h2 h3 hne hbn hv u2 u3 u6 g hu hbx.lt ho hg h5).set _
theorem cells_new (w : World) (cs : Array Value) (T : TypeId) : ∀ (j : Nat) (u : Value), cs.toList[j]? = some u → (w.alloc (.cells cs T)).cell? ((⟨w.heap.size, 0, none⟩ : Addr).add j) = some u := by
  intro j u hu
  rw [show (⟨w.heap.size, 0, none⟩ : Addr).add j = ⟨w.heap.size, j, none⟩ by unfold Addr.add; by_cases h0 : j = 0 <;> simp [h0]]
  exact (World.cell?_alloc_at _ T _ j (by simp)).trans (by simpa using hu)
theorem boolss_rows {w : World} {v : Value} {t : List (List Bool)} (h : IsBoolss w v t) : t.length ≤ 5864062014805 ∧ ∀ i, i < t.length → (nth t i).length ≤ 140737488355328 :=
  let ⟨_, _, _, hl, h⟩ := h
  ⟨hl, fun i hi => let ⟨_, _, _, _, _, _, _, _, _, h2, _⟩ := h i hi; h2⟩
theorem rule_small {p : Prob} (hv : validP p = true) {k : Nat} (hk : k < p.rules.length) : (nth p.rules k).hits.length ≤ 65536 ∧ (nth p.rules k).ok.length ≤ 65536 := by
  have h64 := valid_pane64 hv
  rcases ruleOK_iff.1 (valid_rule hv hk) with ⟨_, hc⟩ | ⟨_, hc⟩
  · obtain ⟨h1, h2, h3⟩ := cnt_at hc
    refine ⟨?_, by omega⟩
    rw [h1]
    rcases Nat.lt_or_ge 64 (nth p.rules k).panes.length with hlt | hge
    · have := rising_ge (l := (nth p.rules k).panes) (lo := 0) (fun i hi => ⟨(h3 i hi).1, (h3 i hi).2.2.1⟩) 64 hlt
      have := (h3 64 hlt).2.1
      omega
    · omega
  · obtain ⟨_, h2, _, _, h5, _, _, h8, _⟩ := pair_at hc
    have := valid_opts hv (i := (nth (nth p.rules k).panes 0).toNat) (by have := valid_len hv; omega)
    omega

/-- a slice -/
def isSl (v : Value) : Prop := ∃ a l c, v = .slice a l c
/-- a problem in memory of its own, and an error -/
def EndsProb (W : World) (p : Prob) (it : List Int) (e : Ending) (w' : World) : Prop := ∃ v0 v1 v2, e = .returned (.tuple #[.agg #[v0, v1, v2], .int .i64 (onlyE p it)]) ∧ (isSl v0 ∧ isSl v1 ∧ isSl v2) ∧ ∃ y : Later W, w' = y.w ∧ (onlyE p it = 0 → IsProb y.w v0 v1 v2 (onlyP p it))

set_option maxRecDepth 100000 in
set_option maxHeartbeats 4000000 in
theorem pOnly {W : World} (x : Later W) (v0 v1 v2 vi : Value) (p : Prob) (it : List Int) (hp : IsProb W v0 v1 v2 p) (hi : IsInts W vi it) :
    Calls Try.prog 18 #[.agg #[v0, v1, v2], vi] x.w (EndsProb W p it) := by
  go_enter Try.func18, Try.ntmps18
  go_upto_region 1 with (fail)
  obtain ⟨W1, x1, e1, hb1, s1, p0, p1, p2⟩ := enter3 x v0 v1 v2 26
  rw [show x.w.heap.size + 1 = x1.w.heap.size by rw [← e1]; simp] at *
  rw [e1]; clear e1
  have HP := Lib.hid (hp.below hb1)
  have HI := Lib.hid (hi.below hb1)
  obtain ⟨ap, cp, rfl, lp, _⟩ := hp.panes.opened
  obtain ⟨ao, co, rfl, lo, _⟩ := hp.opts.opened
  obtain ⟨ar, cr, rfl, lr, _⟩ := hp.rules.opened
  obtain ⟨ai, ci, rfl, li, _⟩ := hi.opened
  clear hp hi
  obtain ⟨b4, hB4⟩ : ∃ b4, x1.w.heap.size = b4 := ⟨_, rfl⟩
  obtain ⟨W2, hW2⟩ : ∃ W2, x1.w.alloc (.cells #[.slice none 0 0, .slice none 0 0, .slice none 0 0] 26) = W2 := ⟨_, rfl⟩
  have hb2 : Below W1.heap.size W1 W2 := hW2 ▸ x1.h.alloc x1.h.size _
  have n4 : b4 < W2.heap.size := by rw [← hW2, ← hB4]; simp
  have hW14 : W1.heap.size ≤ b4 := hB4 ▸ x1.h.size
  have c40 : ∀ y : Later W2, y.w.cell? ⟨b4, 0, none⟩ = some (.slice none 0 0) := Later.cell n4 (by rw [← hW2, ← hB4]; exact World.cell?_alloc_at _ _ _ 0 rfl)
  have c41 : ∀ y : Later W2, y.w.cell? ⟨b4, 1, none⟩ = some (.slice none 0 0) := Later.cell n4 (by rw [← hW2, ← hB4]; exact World.cell?_alloc_at _ _ _ 1 rfl)
  have c42 : ∀ y : Later W2, y.w.cell? ⟨b4, 2, none⟩ = some (.slice none 0 0) := Later.cell n4 (by rw [← hW2, ← hB4]; exact World.cell?_alloc_at _ _ _ 2 rfl)
  have f40 : ∀ y : Later W2, y.w.frozen? ⟨b4, 0, none⟩ = false := Later.frozen n4 (by rw [← hW2, ← hB4]; exact World.frozen?_alloc_at _ _ _ 0 rfl)
  have f41 : ∀ y : Later W2, y.w.frozen? ⟨b4, 1, none⟩ = false := Later.frozen n4 (by rw [← hW2, ← hB4]; exact World.frozen?_alloc_at _ _ _ 1 rfl)
  have f42 : ∀ y : Later W2, y.w.frozen? ⟨b4, 2, none⟩ = false := Later.frozen n4 (by rw [← hW2, ← hB4]; exact World.frozen?_alloc_at _ _ _ 2 rfl)
  have s4 : ∀ y : Later W2, b4 < y.w.heap.size := Later.size n4
  rw [hW2, hB4]
  have hne : x.w.heap.size ≠ b4 := by have := s1 x1; omega
  clear hW2 hB4 x1
  replace HP := Lib.hid (HP.out.below hb2)
  replace HI := Lib.hid (HI.out.below hb2)
  replace p0 := Later.cells hb2 p0
  replace p1 := Later.cells hb2 p1
  replace p2 := Later.cells hb2 p2
  replace s1 := Later.sizes hb2 s1
  show Code.wp _ _ _ _ (Later.now W2).w
  generalize Later.now W2 = x1
  have hfin : Hid (∀ (y : Later W2) (u0 u1 u2 : Value) (n : Int), isSl u0 ∧ isSl u1 ∧ isSl u2 → onlyE p it = n → (onlyE p it = 0 → IsProb (((y.w.setCell ⟨b4, 0, none⟩ u0).setCell ⟨b4, 1, none⟩ u1).setCell ⟨b4, 2, none⟩ u2) u0 u1 u2 (onlyP p it)) →
      EndsProb W p it (.returned (.tuple #[.agg #[u0, u1, u2], .int .i64 n])) (((y.w.setCell ⟨b4, 0, none⟩ u0).setCell ⟨b4, 1, none⟩ u1).setCell ⟨b4, 2, none⟩ u2)) := Lib.hid (fun y u0 u1 u2 n hsl hn h => by
    obtain ⟨z, hz⟩ : ∃ z : Later W, y.w = z.w := ⟨⟨y.w, below_then (hb1.trans (hb2.mono hb1.size)) y⟩, rfl⟩
    have hle : W.heap.size ≤ b4 := Nat.le_trans hb1.size hW14
    obtain ⟨z1, hz1⟩ := z.setO hle 0 u0
    obtain ⟨z2, hz2⟩ := z1.setO hle 1 u1
    obtain ⟨z3, hz3⟩ := z2.setO hle 2 u2
    rw [hz, hz1, hz2, hz3] at h ⊢
    exact ⟨u0, u1, u2, by rw [hn], hsl, z3, rfl, h⟩)
  have hV := Lib.hid (fun y : Later W2 => pValid y _ _ _ p HP.out)
  cases hv : validP p
  · rw [hv] at hV
    go_wp2_with (go_at_call 36; refine (hV.out x1).mono ?_; rintro e w' ⟨rfl, x1, rfl⟩)
    obtain ⟨t0, t1, t2⟩ := three_set (u0 := .slice none 0 0) (u1 := .slice none 0 0) (u2 := .slice none 0 0) (c40 x1) (c41 x1) (c42 x1)
    refine bodyPost_ret (results_ct rfl rfl (loadVar_prob t0 t1 t2)) rfl ?_
    exact hfin.out x1 _ _ _ _ ⟨⟨_, _, _, rfl⟩, ⟨_, _, _, rfl⟩, ⟨_, _, _, rfl⟩⟩ (onlyE_70 hv) (fun h => by simp [onlyE_70 hv] at h)
  rw [hv] at hV
  obtain ⟨_, _, hqq, _, hits⟩ := HI.out.opened
  cases hqq
  go_wp2_with (go_at_call 36; refine (hV.out x1).mono ?_; rintro e w' ⟨rfl, x1, rfl⟩)
  go_loopw [20] (fun iv wr => ∃ k : Nat, k ≤ it.length ∧ iv = .int .i64 k ∧ (∃ y : Later W2, wr = y.w) ∧ (∀ i, i < k → 0 < i → nth it (i - 1) < nth it i)) (fun iv _ => it.length - (intOf iv).toNat)
  case atStart => exact ⟨0, Nat.zero_le _, rfl, ⟨x1, rfl⟩, by omega⟩
  case round =>
    clear x1
    obtain ⟨k, hk, rfl, ⟨x1, rfl⟩, hz⟩ := hrel
    replace hz := Lib.hid hz
    by_cases hlt : k < it.length
    · obtain ⟨bi, oi, rfl, hbi, d1⟩ := hits.out k hlt
      by_cases h0 : 0 < k
      · obtain ⟨_, _, he, _, d0⟩ := hits.out (k - 1) (by omega)
        cases he
        have hsub : ((k : Int) - 1).toNat = k - 1 := by omega
        cases hA : decide (nth it k ≤ nth it (k - 1))
        · go_wp2
          go_roundw
          case rel => exact ⟨k + 1, by omega, by go_num, ⟨x1, rfl⟩, all_step hz.out (fun _ => by simpa using hA)⟩
          case measure => simp [intOf]; omega
        · have hbad : Hid (onlyE p it = 1) := Lib.hid (onlyE_1 hv (risingB_no hlt h0 (by simpa using hA)))
          go_wp2
          obtain ⟨t0, t1, t2⟩ := three_set (u0 := .slice none 0 0) (u1 := .slice none 0 0) (u2 := .slice none 0 0) (c40 x1) (c41 x1) (c42 x1)
          refine bodyPost_ret (results_ct rfl rfl (loadVar_prob t0 t1 t2)) rfl ?_
          exact hfin.out x1 _ _ _ _ ⟨⟨_, _, _, rfl⟩, ⟨_, _, _, rfl⟩, ⟨_, _, _, rfl⟩⟩ hbad.out (fun h => by simp [hbad.out] at h)
      · go_wp2
        go_roundw
        case rel => exact ⟨k + 1, by omega, by go_num, ⟨x1, rfl⟩, all_step hz.out (fun h => absurd h h0)⟩
        case measure => simp [intOf]; omega
    · obtain rfl : k = it.length := by omega
      have hE0 : Hid (onlyE p it = 0) := Lib.hid (onlyE_0 hv (risingB_yes hz.out))
      clear hz hlt hits
      have hcl := Lib.hid (pcloneI (Later.now x1.w) _ p.panes (HP.out.panes.below x1.h))
      go_upto_region 10 with (go_at_call 68; refine hcl.out.mono ?_; rintro e w' ⟨u, rfl, y, rfl, hown⟩; obtain ⟨A0, c0, rfl⟩ := owns_slice hown)
      have hbb : Below W2.heap.size W2 y.w := below_then x1.h y
      obtain ⟨Wb, hWb⟩ : ∃ Wb, y.w = Wb := ⟨_, rfl⟩
      have hI0 : IsInts (wout (fun k => decide (k < x1.w.heap.size)) Wb) (.slice A0 p.panes.length c0) p.panes := hWb ▸ isInts_of_owns (owns_fresh hown) lp
      obtain ⟨n0, hn0⟩ : ∃ n0, x1.w.heap.size = n0 := ⟨_, rfl⟩
      have hn04 : b4 < n0 := hn0 ▸ s4 x1
      rw [hn0] at hI0
      clear hn0
      rw [hWb] at hbb ⊢
      clear hWb hown y x1 hcl
      replace HP := Lib.hid (HP.out.below hbb)
      replace HI := Lib.hid (HI.out.below hbb)
      replace p0 := Later.cells hbb p0
      replace p1 := Later.cells hbb p1
      replace p2 := Later.cells hbb p2
      replace s1 := Later.sizes hbb s1
      replace c40 := Later.cells hbb c40
      replace c41 := Later.cells hbb c41
      replace c42 := Later.cells hbb c42
      replace f40 := fun y : Later Wb => f40 (y.re hbb)
      replace f41 := fun y : Later Wb => f41 (y.re hbb)
      replace f42 := fun y : Later Wb => f42 (y.re hbb)
      replace s4 := Later.sizes hbb s4
      replace hI0 := Lib.hid hI0
      replace hfin := Lib.hid (fun y : Later Wb => hfin.out (y.re hbb))
      obtain ⟨b8, hB8⟩ : ∃ b8, Wb.heap.size = b8 := ⟨_, rfl⟩
      have hbx : BoxAt (Wb.alloc (.cells #[.slice A0 p.panes.length c0, .slice none 0 0, .slice none 0 0] 26)) b8 (.slice A0 p.panes.length c0) (.slice none 0 0) (.slice none 0 0) := by
        rw [← hB8]
        exact ⟨by simp, World.cell?_alloc_at _ _ _ 0 rfl, World.cell?_alloc_at _ _ _ 1 rfl, World.cell?_alloc_at _ _ _ 2 rfl, World.frozen?_alloc_at _ _ _ 0 rfl, World.frozen?_alloc_at _ _ _ 1 rfl, World.frozen?_alloc_at _ _ _ 2 rfl⟩
      obtain ⟨z, hz⟩ := (Later.now Wb).alloc (.cells #[.slice A0 p.panes.length c0, .slice none 0 0, .slice none 0 0] 26)
      change Wb.alloc _ = z.w at hz
      rw [hz] at hbx ⊢
      rw [hB8]
      clear hz
      have h4 : b4 ≠ b8 := by have := s4 (Later.now Wb); change b4 < Wb.heap.size at this; omega
      obtain ⟨_, _, hqq, _, hopts⟩ := HP.out.opts.opened
      cases hqq
      replace hbx := Lib.hid hbx
      go_wp2
      go_loopw [45] (fun iv wr => ∃ k : Nat, k ≤ p.opts.length ∧ iv = .int .i64 k ∧ ∃ y : Later Wb, wr = y.w ∧ ∃ v1, BoxAt y.w b8 (.slice A0 p.panes.length c0) v1 (.slice none 0 0) ∧ OptRow y.w b8 b8 v1 (p.opts.take k)) (fun iv _ => p.opts.length - (intOf iv).toNat)
      case atStart => exact ⟨0, Nat.zero_le _, rfl, z, rfl, _, hbx.out, OptRow.nil _ _ _⟩
      case round =>
        clear hbx z
        obtain ⟨k, hk, rfl, ⟨z, rfl, v1, hbx, hrow⟩⟩ := hrel
        by_cases hlt : k < p.opts.length
        · obtain ⟨bo, oo, rfl, hbo, u0, d0, hO⟩ := hopts.out k hlt
          obtain ⟨au, cu, rfl, lu, _⟩ := hO.opened
          have e1 := hbx.c1
          have n8 := hbx.lt
          have hbx' := Lib.hid hbx
          have hrow' := Lib.hid hrow
          clear hbx hrow
          go_upto_region 13 with (fail)
          refine region_cut5 (fun _ _ _ A c w' => ∃ y : Later Wb, w' = y.w ∧ BoxAt y.w b8 (.slice A0 p.panes.length c0) (.slice A (k + 1) c) (.slice none 0 0) ∧ OptRow y.w b8 b8 (.slice A (k + 1) c) (p.opts.take (k + 1))) ?F ?paths ?cont
          case paths =>
            intro hcont
            have hC := Lib.hid (pcloneO (Later.now z.w.drew) _ _ (hO.below (Below.drew z.h)))
            have hbd : Below z.w.heap.size z.w z.w.drew := Below.drew (Below.refl _ _)
            have hbxd := Lib.hid (fun y : Later z.w.drew => hbx'.out.below (below_then hbd y))
            have hrowd := Lib.hid (fun (y : Later z.w.drew) (u : Value) => (hrow'.out.below (below_then hbd y)).below (below_alloc1 y.w (.cells #[u] 39)))
            have hne1 := Lib.hid hrow'.out.ne
            have hlt1 := Lib.hid hrow'.out.lt
            have htk : Hid (p.opts.take (k + 1) = p.opts.take k ++ [nth p.opts k]) := Lib.hid (by rw [List.take_succ_eq_append_getElem hlt, nth_eq _ k hlt])
            have hlen : Hid ((p.opts.take k).length = k) := Lib.hid (by simp; omega)
            have hzd : Hid (∀ (y : Later z.w.drew) (u : Value), ∃ zA : Later Wb, y.w.alloc (.cells #[u] 39) = zA.w) := Lib.hid (fun y u => ⟨⟨_, (z.h.trans ((below_then hbd y).mono z.h.size)).alloc (Nat.le_trans z.h.size (below_then hbd y).size) _⟩, rfl⟩)
            clear hbd
            go_region_law (first | (go_simp; go_at_call 72; refine hC.out.mono ?_; rintro e w' ⟨A5, c5, rfl, y, rfl, hI5⟩; have hI6 := Lib.hid hI5; clear hI5; have hbx5 := hbxd.out y; have e15 := hbx5.c1; have n85 := hbx5.lt; have hbx6 := Lib.hid hbx5; clear hbx5; have hus := (hrowd.out y (.slice A5 (nth p.opts k).length c5)).row; rw [hlen.out] at hus; replace hus := Lib.hid hus) | (obtain ⟨us, ho1, ho2, ho3⟩ := hus.out; refine step_appN rfl (.tmp 50) (.tmp 53) 23 rfl 39 _ 1 24 Try.info39 rfl (by decide) Try.underlying23 v1 k us b8 ho1 (by have := n85; simp; omega) ⟨y.w.heap.size, 0, none⟩ 1 1 [.slice A5 (nth p.opts k).length c5] rfl (by simp [Act.eval]) (by simp [Act.eval]) (cell_one_new _ _ _) (by simp [Value.oneCell']) (by omega) (by omega) ?_; intro v' w' ho hg h5; obtain ⟨A7, c7, rfl⟩ := owns_slice ho; obtain ⟨zA, hzA⟩ := hzd.out y (.slice A5 (nth p.opts k).length c5); have hst := opt_step hB8 zA hzA (hbx6.out.below (below_alloc1 _ _)) (l := p.opts.take k) (by rw [hlen.out]; exact ho2) (by rw [hlen.out]; exact ho3) hne1.out (n := z.w.drew.heap.size) n8 (fun g hg => (hlt1.out g hg).2) _ (nth p.opts k) (hI6.out.cov (cov_below (below_alloc1 _ _))) (by rw [hlen.out]; exact ho) hg h5; have e16 := hst.1.c1; have f16 := hst.1.f1; have n86 := hst.1.lt; have hst2 := Lib.hid hst.2; clear hst hzA zA ho hg h5 ho1 ho2 ho3 hI6 hus))
            all_goals (obtain ⟨yF, hyF, hb, hr⟩ := hst2.out; rw [hyF]; generalize y.w.heap.size = bb; exact hcont A5 c5 bb A7 c7 _ ⟨yF, rfl, hb, by rw [htk.out]; exact hr⟩)
          case cont =>
            rintro A5 c5 bb A7 c7 w' ⟨y, rfl, hb, hr⟩
            replace hb := Lib.hid hb
            replace hr := Lib.hid hr
            go_wp2
            go_roundw
            case rel => exact ⟨k + 1, by omega, by go_num, y, rfl, _, hb.out, hr.out⟩
            case measure => simp [intOf]; omega
        · obtain rfl : k = p.opts.length := by omega
          clear hopts
          rw [List.take_length] at hrow
          have hOS := hrow.is lo
          obtain ⟨us, hus, hx1, hx2⟩ := hrow.row
          obtain ⟨A1, c1, rfl⟩ := owns_slice hus
          clear hx1 hx2 hus us hrow
          obtain ⟨_, _, hqq, _, hrules⟩ := HP.out.rules.opened
          cases hqq
          have hbx' := Lib.hid hbx
          replace hOS := Lib.hid hOS
          clear hbx
          go_wp2
          go_loopw [60] (fun iv wr => ∃ k : Nat, k ≤ p.rules.length ∧ iv = .int .i64 k ∧ ∃ y : Later Wb, wr = y.w ∧ ∃ v2, BoxAt y.w b8 (.slice A0 p.panes.length c0) (.slice A1 p.opts.length c1) v2 ∧ IsOptss (wout (hidB b8 v2.ownBlock) y.w) (.slice A1 p.opts.length c1) p.opts ∧ RulRow y.w b8 b8 v2 (onlyTo p it k)) (fun iv _ => p.rules.length - (intOf iv).toNat)
          case atStart => exact ⟨0, Nat.zero_le _, rfl, z, rfl, _, hbx'.out, hOS.out, RulRow.nil _ _ _⟩
          case round =>
            clear hbx' hOS z
            obtain ⟨k, hk, rfl, ⟨z, rfl, v2, hbx, hOS, hrow⟩⟩ := hrel
            by_cases hlt : k < p.rules.length
            · obtain ⟨bk, ok, rfl, hbk, u2, u3, u6, r0, r1, r2, r3, r4, r5, r6, hR⟩ := hrules.out k hlt
              obtain ⟨aq, cq, rfl, lq, _⟩ := hR.panes.opened
              obtain ⟨ah, ch, rfl, lh, _⟩ := hR.hits.opened
              obtain ⟨ak, ck, rfl, lk, _⟩ := hR.ok.opened
              replace hbx := Lib.hid hbx
              replace hOS := Lib.hid hOS
              replace hrow := Lib.hid hrow
              go_upto_region 19 with (fail)
              obtain ⟨A, hA⟩ : ∃ A, z.w.alloc (.cells #[.int .i64 (nth p.rules k).item, .int .i64 (nth p.rules k).kind, .slice aq (nth p.rules k).panes.length cq, .slice ah (nth p.rules k).hits.length ch, .int .i64 (nth p.rules k).lo, .int .i64 (nth p.rules k).hi, .slice ak (nth p.rules k).ok.length ck] 87) = A := ⟨_, rfl⟩
              have hzA : Below z.w.heap.size z.w A := hA ▸ below_alloc1 _ _
              obtain ⟨b13, hB13⟩ : ∃ b13, z.w.heap.size = b13 := ⟨_, rfl⟩
              have hs13 : b13 < A.heap.size := by rw [← hA, ← hB13]; simp
              have g0 : ∀ y : Later A, y.w.cell? ⟨b13, 0, none⟩ = some (.int .i64 (nth p.rules k).item) := Later.cell hs13 (by rw [← hA, ← hB13]; exact World.cell?_alloc_at _ _ _ 0 rfl)
              have g1 : ∀ y : Later A, y.w.cell? ⟨b13, 1, none⟩ = some (.int .i64 (nth p.rules k).kind) := Later.cell hs13 (by rw [← hA, ← hB13]; exact World.cell?_alloc_at _ _ _ 1 rfl)
              have g2 : ∀ y : Later A, y.w.cell? ⟨b13, 2, none⟩ = some (.slice aq (nth p.rules k).panes.length cq) := Later.cell hs13 (by rw [← hA, ← hB13]; exact World.cell?_alloc_at _ _ _ 2 rfl)
              have g3 : ∀ y : Later A, y.w.cell? ⟨b13, 3, none⟩ = some (.slice ah (nth p.rules k).hits.length ch) := Later.cell hs13 (by rw [← hA, ← hB13]; exact World.cell?_alloc_at _ _ _ 3 rfl)
              have g4 : ∀ y : Later A, y.w.cell? ⟨b13, 4, none⟩ = some (.int .i64 (nth p.rules k).lo) := Later.cell hs13 (by rw [← hA, ← hB13]; exact World.cell?_alloc_at _ _ _ 4 rfl)
              have g5 : ∀ y : Later A, y.w.cell? ⟨b13, 5, none⟩ = some (.int .i64 (nth p.rules k).hi) := Later.cell hs13 (by rw [← hA, ← hB13]; exact World.cell?_alloc_at _ _ _ 5 rfl)
              have g6 : ∀ y : Later A, y.w.cell? ⟨b13, 6, none⟩ = some (.slice ak (nth p.rules k).ok.length ck) := Later.cell hs13 (by rw [← hA, ← hB13]; exact World.cell?_alloc_at _ _ _ 6 rfl)
              have f2 : ∀ y : Later A, y.w.frozen? ⟨b13, 2, none⟩ = false := Later.frozen hs13 (by rw [← hA, ← hB13]; exact World.frozen?_alloc_at _ _ _ 2 rfl)
              have f3 : ∀ y : Later A, y.w.frozen? ⟨b13, 3, none⟩ = false := Later.frozen hs13 (by rw [← hA, ← hB13]; exact World.frozen?_alloc_at _ _ _ 3 rfl)
              have f6 : ∀ y : Later A, y.w.frozen? ⟨b13, 6, none⟩ = false := Later.frozen hs13 (by rw [← hA, ← hB13]; exact World.frozen?_alloc_at _ _ _ 6 rfl)
              have S13 : ∀ y : Later A, b13 < y.w.heap.size := Later.size hs13
              have hWA : Below Wb.heap.size Wb A := z.h.trans (hzA.mono z.h.size)
              have hR' := Lib.hid (hR.below hWA)
              have hHas := Lib.hid (fun y : Later A => phasI y _ it (nth p.rules k).item (HI.out.below hWA))
              rw [hA, hB13]
              clear hA r0 r1 r2 r3 r4 r5 r6 hR
              show Code.wp _ _ _ _ (Later.now A).w
              generalize Later.now A = y
              cases hK : hasI it (nth p.rules k).item
              · rw [hK] at hHas
                have hno := Lib.hid (onlyTo_no (p := p) hK)
                go_wp2_with (go_at_call 75; refine (hHas.out y).mono ?_; rintro e w' ⟨rfl, y, rfl⟩)
                have hzy := below_then hzA y
                go_roundw
                case rel => exact ⟨k + 1, by omega, by go_num, z.up ⟨y.w, hzy⟩, rfl, v2, hbx.out.below hzy, hOS.out.cov (cov_below hzy), by rw [hno.out]; exact hrow.out.below hzy⟩
                case measure => simp [intOf]; omega
              · rw [hK] at hHas
                have hyes := Lib.hid (onlyTo_yes (p := p) hK)
                go_upto_region 20 with (go_at_call 75; refine (hHas.out y).mono ?_; rintro e w' ⟨rfl, y, rfl⟩)
                have hbd : Below A.heap.size A y.w.drew := Below.drew y.h
                have g0d := Lib.hid (fun q : Later y.w.drew => g0 ⟨q.w, below_then hbd q⟩)
                have g1d := Lib.hid (fun q : Later y.w.drew => g1 ⟨q.w, below_then hbd q⟩)
                have g2d := fun q : Later y.w.drew => g2 ⟨q.w, below_then hbd q⟩
                have g3d := fun q : Later y.w.drew => g3 ⟨q.w, below_then hbd q⟩
                have g4d := Lib.hid (fun q : Later y.w.drew => g4 ⟨q.w, below_then hbd q⟩)
                have g5d := Lib.hid (fun q : Later y.w.drew => g5 ⟨q.w, below_then hbd q⟩)
                have g6d := fun q : Later y.w.drew => g6 ⟨q.w, below_then hbd q⟩
                have f2d := fun q : Later y.w.drew => f2 ⟨q.w, below_then hbd q⟩
                have f3d := fun q : Later y.w.drew => f3 ⟨q.w, below_then hbd q⟩
                have f6d := fun q : Later y.w.drew => f6 ⟨q.w, below_then hbd q⟩
                have Sd := fun q : Later y.w.drew => S13 ⟨q.w, below_then hbd q⟩
                replace g2d := Lib.hid g2d
                replace g3d := Lib.hid g3d
                replace g6d := Lib.hid g6d
                replace f2d := Lib.hid f2d
                replace f3d := Lib.hid f3d
                replace f6d := Lib.hid f6d
                replace Sd := Lib.hid Sd
                have e2 := g2 y
                have e3 := g3 y
                have e6 := g6 y
                have n3 := S13 y
                obtain ⟨hsm1, hsm2⟩ := rule_small hv hlt
                obtain ⟨hq1, hq2⟩ := boolss_rows hR'.out.hits
                obtain ⟨hq3, hq4⟩ := boolss_rows hR'.out.ok
                have hC1 := Lib.hid (pcloneI (Later.now y.w.drew) _ _ (hR'.out.panes.below hbd))
                have hC2 := Lib.hid (fun y1 : Later y.w.drew => pboolsC (Later.now y1.w) _ _ (hR'.out.hits.below (below_then hbd y1)) hsm1)
                have hC3 := Lib.hid (fun (y1 : Later y.w.drew) (y2 : Later y1.w) => pboolsC (Later.now y2.w) _ _ (hR'.out.ok.below (below_then hbd (y1.up y2))) hsm2)
                have hzd : Hid (∀ q : Later y.w.drew, Below z.w.heap.size z.w q.w) := Lib.hid (fun q => hzA.trans ((below_then hbd q).mono hzA.size))
                have hAs : Hid (A.heap.size ≤ y.w.drew.heap.size) := Lib.hid hbd.size
                replace hq1 := Lib.hid hq1
                replace hq2 := Lib.hid hq2
                replace hq3 := Lib.hid hq3
                replace hq4 := Lib.hid hq4
                clear hsm1 hsm2 hHas hK
                replace g0 := Lib.hid g0
                replace g1 := Lib.hid g1
                replace g4 := Lib.hid g4
                replace g5 := Lib.hid g5
                refine region_cut6 (fun A5 c5 A7 c7 A9 c9 w' => ∃ q : Later z.w, w' = q.w ∧ RlBox q.w b13 (.slice A5 (nth p.rules k).panes.length c5) (.slice A7 (nth p.rules k).hits.length c7) (.slice A9 (nth p.rules k).ok.length c9) (nth p.rules k) ∧
                  IsRl (wout (fun k => decide (k < A.heap.size)) q.w) (.slice A5 (nth p.rules k).panes.length c5) (.slice A7 (nth p.rules k).hits.length c7) (.slice A9 (nth p.rules k).ok.length c9) (nth p.rules k)) ?F2 ?paths2 ?cont2
                case paths2 =>
                  intro hcont
                  go_region_law (first | (have hx := y2.h; clear hx; go_simp; go_at_call 73; refine (hC3.out y1 y2).mono ?_; rintro e w' ⟨v9, rfl, y3, rfl, vs9, ht9⟩; obtain ⟨A9, c9, rfl⟩ := ht9.slice; have ht10 := Lib.hid ht9; clear ht9; have e32 := g2d.out ((y1.up y2).up y3); have e33 := g3d.out ((y1.up y2).up y3); have e36 := g6d.out ((y1.up y2).up y3); have q32 := f2d.out ((y1.up y2).up y3); have q33 := f3d.out ((y1.up y2).up y3); have q36 := f6d.out ((y1.up y2).up y3); have n33 := Sd.out ((y1.up y2).up y3); change y3.w.cell? _ = _ at e32 e33 e36; change y3.w.frozen? _ = _ at q32 q33 q36; change _ < y3.w.heap.size at n33) | (have hx := y1.h; clear hx; go_simp; go_at_call 73; refine (hC2.out y1).mono ?_; rintro e w' ⟨v7, rfl, y2, rfl, vs7, ht7⟩; obtain ⟨A7, c7, rfl⟩ := ht7.slice; have ht8 := Lib.hid ht7; clear ht7; have e26 := g6d.out (y1.up y2); have n23 := Sd.out (y1.up y2); change y2.w.cell? _ = _ at e26; change _ < y2.w.heap.size at n23) | (go_simp; go_at_call 68; refine hC1.out.mono ?_; rintro e w' ⟨v5, rfl, y1, rfl, ho5⟩; obtain ⟨A5, c5, rfl⟩ := owns_slice ho5; have ho6 := Lib.hid ho5; clear ho5; have e13 := g3d.out y1; have e16 := g6d.out y1; have n13 := Sd.out y1; change y1.w.cell? _ = _ at e13 e16; change _ < y1.w.heap.size at n13))
                  all_goals
                    have hRn : IsRl (wout (fun k => decide (k < A.heap.size)) y3.w) (.slice A5 (nth p.rules k).panes.length c5) (.slice A7 (nth p.rules k).hits.length c7) (.slice A9 (nth p.rules k).ok.length c9) (nth p.rules k) := by
                      have m1 := hAs.out
                      have m2 := y1.h.size
                      have m3 := y2.h.size
                      refine ⟨?_, ?_, ?_⟩
                      · exact ((isInts_of_owns (owns_fresh ho6.out) lq).cov (cov_fresh (P := fun k => decide (k < A.heap.size)) fun k hk => by rw [decide_eq_false_iff_not]; omega)).cov (cov_below (y1.up y2 |>.up y3 |> fun q => (y2.up y3).h))
                      · exact ((ht8.out.fresh hq1.out hq2.out).cov (cov_fresh (P := fun k => decide (k < A.heap.size)) fun k hk => by rw [decide_eq_false_iff_not]; omega)).cov (cov_below y3.h)
                      · exact (ht10.out.fresh hq3.out hq4.out).cov (cov_fresh (P := fun k => decide (k < A.heap.size)) fun k hk => by rw [decide_eq_false_iff_not]; omega)
                    obtain ⟨yF, hyF, hb, hr⟩ := rul_copy hB13 (hzd.out ((y1.up y2).up y3)) ⟨n33, g0d.out ((y1.up y2).up y3), g1d.out ((y1.up y2).up y3), e32, e33, g4d.out ((y1.up y2).up y3), g5d.out ((y1.up y2).up y3), e36⟩ hs13 hRn
                    change ((y3.w.setCell _ _).setCell _ _).setCell _ _ = _ at hyF
                    rw [hyF]
                    exact hcont A5 c5 A7 c7 A9 c9 _ ⟨yF, rfl, hb, hr⟩
                case cont2 =>
                  clear hC1 hC2 hC3 hzd g2d g3d g6d f2d f3d f6d Sd g0d g1d g4d g5d hAs e2 e3 e6 n3 hq1 hq2 hq3 hq4 g0 g1 g2 g3 g4 g5 g6 f2 f3 f6 S13
                  rintro A5 c5 A7 c7 A9 c9 w' ⟨q, rfl, hb, hr⟩
                  have hbq := hbx.out.below q.h
                  have hrq := (hrow.out.below q.h)
                  obtain ⟨us0, hus0, hx1, hx2⟩ := hrq.row
                  obtain ⟨A2, c2, rfl⟩ := owns_slice hus0
                  clear hx1 hx2 hus0 us0
                  have hlt2 := Lib.hid (fun g hg => (let ⟨us, h1, _⟩ := hrow.out.row; (h1.lt g hg).2 : g < z.w.heap.size))
                  have e2 := hbq.c2
                  have n8 := hbq.lt
                  obtain ⟨nb, k0, k1, k2, k3, k4, k5, k6⟩ := hb
                  have hbA := Lib.hid (hbq.below (below_alloc1 q.w (.cells #[.int .i64 (nth p.rules k).item, .int .i64 (nth p.rules k).kind, .slice A5 (nth p.rules k).panes.length c5, .slice A7 (nth p.rules k).hits.length c7, .int .i64 (nth p.rules k).lo, .int .i64 (nth p.rules k).hi, .slice A9 (nth p.rules k).ok.length c9] 87)))
                  have hrA := Lib.hid (hrq.below (below_alloc1 q.w (.cells #[.int .i64 (nth p.rules k).item, .int .i64 (nth p.rules k).kind, .slice A5 (nth p.rules k).panes.length c5, .slice A7 (nth p.rules k).hits.length c7, .int .i64 (nth p.rules k).lo, .int .i64 (nth p.rules k).hi, .slice A9 (nth p.rules k).ok.length c9] 87)))
                  have hoA := Lib.hid ((hOS.out.cov (cov_below q.h)).cov (cov_below (below_alloc1 q.w (.cells #[.int .i64 (nth p.rules k).item, .int .i64 (nth p.rules k).kind, .slice A5 (nth p.rules k).panes.length c5, .slice A7 (nth p.rules k).hits.length c7, .int .i64 (nth p.rules k).lo, .int .i64 (nth p.rules k).hi, .slice A9 (nth p.rules k).ok.length c9] 87))))
                  have hrr := Lib.hid (hr.cov (cov_below (below_alloc1 q.w (.cells #[.int .i64 (nth p.rules k).item, .int .i64 (nth p.rules k).kind, .slice A5 (nth p.rules k).panes.length c5, .slice A7 (nth p.rules k).hits.length c7, .int .i64 (nth p.rules k).lo, .int .i64 (nth p.rules k).hi, .slice A9 (nth p.rules k).ok.length c9] 87))))
                  obtain ⟨zA, hzA2⟩ := (z.up q).alloc (.cells #[.int .i64 (nth p.rules k).item, .int .i64 (nth p.rules k).kind, .slice A5 (nth p.rules k).panes.length c5, .slice A7 (nth p.rules k).hits.length c7, .int .i64 (nth p.rules k).lo, .int .i64 (nth p.rules k).hi, .slice A9 (nth p.rules k).ok.length c9] 87)
                  change q.w.alloc _ = zA.w at hzA2
                  replace hzA2 := Lib.hid hzA2
                  have hlen := onlyTo_len p it k
                  have hbz : Hid (b8 < A.heap.size ∧ z.w.heap.size ≤ A.heap.size) := Lib.hid ⟨Nat.lt_of_lt_of_le hbx.out.lt hzA.size, hzA.size⟩
                  have hR256 := valid_rules hv
                  clear hbq hrq hr
                  go_wp2_with (at_builtin; obtain ⟨us, ho1, ho2, ho3⟩ := hrA.out.row; refine wpList_appX rfl _ _ 24 rfl 87 _ 7 104 Try.info87 rfl (by decide) Try.underlying24 _ (onlyTo p it k).length (us.flatMap rlCells) b8 ho1 (Nat.le_of_lt hbA.out.lt) ⟨q.w.heap.size, 0, none⟩ 1 1 (rlCells (nth p.rules k, .slice A5 (nth p.rules k).panes.length c5, .slice A7 (nth p.rules k).hits.length c7, .slice A9 (nth p.rules k).ok.length c9)) rfl (by rfl) (by rfl) (cells_new _ _ _) (by simp [rlCells, Value.oneCell']) (by omega) (by omega) ?_; intro v' w' ho hg h5; obtain ⟨A10, c10, rfl⟩ := owns_slice ho; have hst := rul_step hB8 zA hzA2.out hbA.out hoA.out ho2 ho3 hrA.out.ne (n := A.heap.size) hbz.out.1 (fun g hg => Nat.lt_of_lt_of_le (hlt2.out g hg) hbz.out.2) _ _ _ (nth p.rules k) hrr.out ho hg h5; have e16 := hst.1.c2; have f16 := hst.1.f2; have n86 := hst.1.lt; have hst2 := Lib.hid hst.2; clear hst ho hg h5 ho1 ho2 ho3)
                  obtain ⟨yF, hyF, hb1, hb2, hb3⟩ := hst2.out
                  rw [hyF]
                  go_roundw
                  case rel => exact ⟨k + 1, by omega, by go_num, yF, rfl, _, hb1, hb2, by rw [hyes.out]; exact hb3⟩
                  case measure => simp [intOf]; omega
            · obtain rfl : k = p.rules.length := by omega
              clear hrules
              have hRS : IsRules (wout (hidB b8 none) z.w) v2 (onlyTo p it p.rules.length) := hrow.is (by have := onlyTo_len p it p.rules.length; omega)
              have hOS2 : IsOptss (wout (hidB b8 none) z.w) (.slice A1 p.opts.length c1) p.opts := hOS.cov (cov_out (Nat.le_refl _) fun q _ hq => ⟨hidB_no.2 ⟨(hidB_no.1 hq).1, by simp⟩, rfl⟩)
              have hIS := hI0.out.cov (cov_below z.h)
              obtain ⟨us0, hus0, hx1, hx2⟩ := hrow.row
              obtain ⟨A2, c2, rfl⟩ := owns_slice hus0
              clear hx1 hx2 hus0 us0 hrow hOS
              have d0 := hbx.c0
              have d1 := hbx.c1
              have d2 := hbx.c2
              have n8 := hbx.lt
              have hn48 : b4 ≤ b8 := by have := s4 (Later.now Wb); change b4 < Wb.heap.size at this; omega
              replace hRS := Lib.hid hRS
              replace hOS2 := Lib.hid hOS2
              replace hIS := Lib.hid hIS
              have q0 := c40 z
              have q1 := c41 z
              have q2 := c42 z
              have r0 : z.w.frozen? ⟨b4, 0, none⟩ = false := f40 z
              have r1 : z.w.frozen? ⟨b4, 1, none⟩ = false := f41 z
              have r2 : z.w.frozen? ⟨b4, 2, none⟩ = false := f42 z
              have m4 := s4 z
              clear hbx
              go_wp2
              obtain ⟨t0, t1, t2⟩ := three_set (u0 := .slice A0 p.panes.length c0) (u1 := .slice A1 p.opts.length c1) (u2 := .slice A2 (onlyTo p it p.rules.length).length c2) q0 q1 q2
              refine bodyPost_ret (results_ct rfl rfl (loadVar_prob t0 t1 t2)) rfl ?_
              refine hfin.out z _ _ _ _ ⟨⟨_, _, _, rfl⟩, ⟨_, _, _, rfl⟩, ⟨_, _, _, rfl⟩⟩ hE0.out (fun _ => ⟨?_, ?_, ?_⟩)
              · exact (((hIS.out.cov (cov_set (by simpa using hn04))).cov (cov_set (by simpa using hn04))).cov (cov_set (by simpa using hn04))).cov (cov_all _ _)
              · exact (((hOS2.out.cov (cov_set (by simp [hidB, hn48]))).cov (cov_set (by simp [hidB, hn48]))).cov (cov_set (by simp [hidB, hn48]))).cov (cov_all _ _)
              · exact (((hRS.out.cov (cov_set (by simp [hidB, hn48]))).cov (cov_set (by simp [hidB, hn48]))).cov (cov_set (by simp [hidB, hn48]))).cov (cov_all _ _)
end Go.Proofs.Ytmpkbolabdmkkaa
