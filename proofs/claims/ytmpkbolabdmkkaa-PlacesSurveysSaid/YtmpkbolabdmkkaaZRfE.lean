/- CONTRACT of the reference's survey. -/
import Derived.Test.YtmpkbolabdmkkaaZSuD
import Derived.Test.YtmpkbolabdmkkaaZPoC
import Derived.Test.YtmpkbolabdmkkaaZApd
import Derived.Test.YtmpkbolabdmkkaaZq
namespace Go.Proofs.Ytmpkbolabdmkkaa
open Go.RowKit

theorem loadVar_nodeR {b : Nat} {w : World} {v0 v1 v2 : Value} (h0 : w.cell? ⟨b, 0, none⟩ = some v0) (h1 : w.cell? ⟨b, 1, none⟩ = some v1) (h2 : w.cell? ⟨b, 2, none⟩ = some v2) : (loadVar 64 ⟨b, 0, none⟩).run Try.prog w = .ok (.agg #[v0, v1, v2]) w := by go_simp
theorem surv_monoR (p : Prob) (m : Nat) (c : List Int) : ∀ (K k : Nat), k ≤ K → szL (survTo p m c k) ≤ szL (survTo p m c K)
  | 0, k, h => by obtain rfl : k = 0 := by omega
                  exact Nat.le_refl _
  | K + 1, k, h => by
    rcases Nat.lt_or_ge K k with h1 | h1
    · obtain rfl : k = K + 1 := by omega
      exact Nat.le_refl _
    · have := surv_monoR p m c K k h1
      rw [survTo_succ, szL_append]; omega
/-- HOW survey ENDS: a tree in blocks of its own -/
def RsEnd (xw : World) (t : Nd) (e : Ending) (w' : World) : Prop :=
  ∃ k, e = .returned (.tuple #[.agg #[.int .i64 t.kind, .int .i64 t.index, k], .int .i64 (szN t : Nat)]) ∧ isSl k ∧ Below xw.heap.size xw w' ∧ IsNd (wout (fun k => decide (k < xw.heap.size)) w') k t
def RsNode (Wb : World) (p : Prob) (v0 v1 v2 : Value) (m : Nat) : Prop := ∀ (c : List Int), c.length + m = p.opts.length → (∀ i, i < c.length → 0 ≤ nth c i ∧ nth c i < (nth p.opts i).length) → ∀ (xw : World) (vf : Value) (most : Int), Below Wb.heap.size Wb xw → IsInts xw vf c → (szN (surv p m c) : Int) ≤ most → most ≤ 200000 →
  Calls Try.prog 118 #[.agg #[v0, v1, v2], vf, .int .i64 most] xw (RsEnd xw (surv p m c))
/-- a kid appended, and the row put into the node -/
theorem kid_step0 {A1 A w' : World} {b8 n : Nat} {u0 u1 v v' : Value} {l : List Nd} {us : List (Nd × Value)} (hg : Below A1.heap.size A1 A) (hb8 : A1.heap.size ≤ b8) (hbx : BoxAt A b8 u0 u1 v)
    (h2 : us.map Prod.fst = l) (h3 : ∀ x ∈ us, IsNd (wout (hidB b8 v.ownBlock) A) x.2 x.1) (hne : ∀ g, v.ownBlock = some g → b8 < g) (hb : b8 < n) (hv : ∀ g, v.ownBlock = some g → g < n) (u : Value) (g : Nd) (hu : IsNd (wout (fun k => decide (k < n)) A) u g)
    (ho : w'.ownsRow b8 64 3 v' (l.length + 1) (us.flatMap ndCells ++ ndCells (g, u))) (hg' : A.grownBy w' v.ownBlock) (h5 : v'.ownBlock = v.ownBlock ∨ v'.ownBlock = some A.heap.size) :
    BoxAt w' b8 u0 u1 v ∧ Below A1.heap.size A1 (w'.setCell ⟨b8, 2, none⟩ v') ∧ BoxAt (w'.setCell ⟨b8, 2, none⟩ v') b8 u0 u1 v' ∧ KidRow (w'.setCell ⟨b8, 2, none⟩ v') b8 b8 v' (l ++ [g]) := by
  have hbw : BoxAt w' b8 u0 u1 v := hbx.grown hg'.size (hg'.block b8 hbx.lt (fun e => by have := hne b8 e.symm; omega))
  refine ⟨hbw, ?_, hbw.set2 _, ?_⟩
  · obtain ⟨y1, hy1⟩ := (⟨A, hg⟩ : Later A1).grown hg' (fun k hk => by have := hne k hk; omega)
    obtain ⟨y2, hy2⟩ := y1.setO hb8 2 v'
    rw [hy1, hy2]
    exact y2.h
  · exact (KidRow.app h2 h3 hne hb hv u g hu hbx.lt ho hg' h5).set _

/-- one cell -/
def OneAt (A : World) (b : Nat) (u : Value) : Prop := b < A.heap.size ∧ A.cell? ⟨b, 0, none⟩ = some u
theorem OneAt.grown {A C : World} {b : Nat} {u : Value} (h : OneAt A b u) (hs : A.heap.size ≤ C.heap.size) (hk : C.heap[b]? = A.heap[b]?) : OneAt C b u := ⟨Nat.lt_of_lt_of_le h.1 hs, (World.cell?_of_block (a := ⟨b, 0, none⟩) hk).trans h.2⟩
theorem OneAt.below {A C : World} {b : Nat} {u : Value} (h : OneAt A b u) (hb : Below A.heap.size A C) : OneAt C b u := h.grown hb.size (hb.block b h.1)
theorem OneAt.keeps1 {P : Nat → Prop} {A C : World} {b : Nat} {u : Value} (h : OneAt A b u) (hk : Keeps1 P A C) (hb : ¬ P b) : OneAt C b u := h.grown hk.1 (hk.2 b h.1 hb)
theorem OneAt.alloc1 {A : World} {b : Nat} {u : Value} (h : OneAt A b u) (o : Obj) : OneAt (A.alloc o) b u := h.below (below_alloc1 _ _)
theorem OneAt.drew1 {A : World} {b : Nat} {u : Value} (h : OneAt A b u) : OneAt A.drew b u := h.below (Below.drew (Below.refl _ _))
theorem one_new (w : World) (u : Value) : OneAt (w.alloc (.cells #[u] 3)) w.heap.size u := ⟨by simp, World.cell?_alloc_at _ _ _ 0 rfl⟩
theorem one_new' (w : World) (n : Nat) (hn : n = w.heap.size) (u : Value) : OneAt (w.alloc (.cells #[u] 3)) n u := by subst hn; exact one_new w u
theorem box_new (w : World) : BoxAt (w.alloc (.cells #[.int .i64 0, .int .i64 0, .slice none 0 0] 64)) w.heap.size (.int .i64 0) (.int .i64 0) (.slice none 0 0) :=
  ⟨by simp, World.cell?_alloc_at _ _ _ 0 rfl, World.cell?_alloc_at _ _ _ 1 rfl, World.cell?_alloc_at _ _ _ 2 rfl, World.frozen?_alloc_at _ _ _ 0 rfl, World.frozen?_alloc_at _ _ _ 1 rfl, World.frozen?_alloc_at _ _ _ 2 rfl⟩
theorem BoxAt.keeps1 {P : Nat → Prop} {A C : World} {b : Nat} {v0 v1 v2 : Value} (h : BoxAt A b v0 v1 v2) (hk : Keeps1 P A C) (hb : ¬ P b) : BoxAt C b v0 v1 v2 := h.grown hk.1 (hk.2 b h.lt hb)
theorem BoxAt.alloc1 {A : World} {b : Nat} {v0 v1 v2 : Value} (h : BoxAt A b v0 v1 v2) (o : Obj) : BoxAt (A.alloc o) b v0 v1 v2 := h.below (below_alloc1 _ _)
theorem BoxAt.drew1 {A : World} {b : Nat} {v0 v1 v2 : Value} (h : BoxAt A b v0 v1 v2) : BoxAt A.drew b v0 v1 v2 := h.below (Below.drew (Below.refl _ _))

/-- the kid in a box of its own: made behind the call, or ahead of it -/
theorem kidA {E w7 : World} {n : Nat} {a b c : Value} {tk : Nd} (hn : E.heap.size ≤ n) (hb : Below E.heap.size E w7) (hnd : IsNd (wout (fun q => decide (q < n)) w7) c tk) :
    ∃ V, w7.alloc (.cells #[a, b, c] 64) = V ∧ Below E.heap.size E V ∧ BoxAt V w7.heap.size a b c ∧ IsNd (wout (fun q => decide (q < E.heap.size)) V) c tk :=
  ⟨_, rfl, hb.alloc hb.size _, ⟨by simp, World.cell?_alloc_at _ _ _ 0 rfl, World.cell?_alloc_at _ _ _ 1 rfl, World.cell?_alloc_at _ _ _ 2 rfl, World.frozen?_alloc_at _ _ _ 0 rfl, World.frozen?_alloc_at _ _ _ 1 rfl, World.frozen?_alloc_at _ _ _ 2 rfl⟩,
    (hnd.cov (cov_fresh fun q hq => by simp; omega) _).cov (cov_below (below_alloc1 _ _)) _⟩
theorem kidB {E w7 : World} {n n2 : Nat} {a b c u0 u1 u2 : Value} {tk : Nd} (hb : Below E.heap.size E w7) (hnd : IsNd (wout (fun q => decide (q < n)) w7) c tk) (hq : BoxAt w7 n2 u0 u1 u2) (h2 : E.heap.size ≤ n2) (h3 : n2 < n) :
    ∃ V, ((w7.setCell ⟨n2, 0, none⟩ a).setCell ⟨n2, 1, none⟩ b).setCell ⟨n2, 2, none⟩ c = V ∧ Below E.heap.size E V ∧ BoxAt V n2 a b c ∧ IsNd (wout (fun q => decide (q < E.heap.size)) V) c tk := by
  obtain ⟨t0, t1, t2⟩ := three_set (u0 := a) (u1 := b) (u2 := c) hq.c0 hq.c1 hq.c2
  have hP : decide (n2 < n) = true := decide_eq_true h3
  refine ⟨_, rfl, ((hb.setCell (p := ⟨n2, 0, none⟩) h2 a).setCell (p := ⟨n2, 1, none⟩) h2 b).setCell (p := ⟨n2, 2, none⟩) h2 c, ⟨by simpa [World.setCell] using hq.lt, t0, t1, t2, ?_, ?_, ?_⟩, ?_⟩
  · exact (frozen_set _ _ _ _).trans ((frozen_set _ _ _ _).trans ((frozen_set _ _ _ _).trans hq.f0))
  · exact (frozen_set _ _ _ _).trans ((frozen_set _ _ _ _).trans ((frozen_set _ _ _ _).trans hq.f1))
  · exact (frozen_set _ _ _ _).trans ((frozen_set _ _ _ _).trans ((frozen_set _ _ _ _).trans hq.f2))
  · exact (((hnd.cov (cov_set (o := 0) (u := a) hP) _).cov (cov_set (o := 1) (u := b) hP) _).cov (cov_set (o := 2) (u := c) hP) _).cov (cov_fresh fun q hq => by simp; omega) _

set_option maxRecDepth 100000 in
set_option maxHeartbeats 4000000 in
theorem rsurvey_core {Wb : World} (p : Prob) (v0 v1 v2 : Value) (m : Nat) (hp : IsProb Wb v0 v1 v2 p) (hval : validP p = true) (hkid : ∀ m', m = m' + 1 → RsNode Wb p v0 v1 v2 m') : RsNode Wb p v0 v1 v2 m := by
  intro c hcl hco xw vf most hbx hf hm hm2
  obtain ⟨af, cf, rfl, lf, _⟩ := hf.opened
  obtain ⟨ap, cp, rfl, lp, _⟩ := hp.panes.opened
  obtain ⟨ao, co, rfl, lo, _⟩ := hp.opts.opened
  obtain ⟨ar, cr, rfl, lr, _⟩ := hp.rules.opened
  have hsz1 : 1 ≤ szN (surv p m c) := by cases surv p m c; simp [szN]
  have hfx := Lib.hid hf
  have hbX := Lib.hid hbx
  show Calls Try.prog 118 #[.agg #[.slice ap p.panes.length cp, .slice ao p.opts.length co, .slice ar p.rules.length cr], .slice af c.length cf, .int .i64 most] (Later.now xw).w _
  generalize Later.now xw = x
  go_enter Try.func118, Try.ntmps118
  go_upto_region 1 with (fail)
  obtain ⟨A1, x1, e1, hb1, s1, p0, p1, p2⟩ := enter3 x (.slice ap p.panes.length cp) (.slice ao p.opts.length co) (.slice ar p.rules.length cr) 26
  rw [show x.w.heap.size + 1 = x1.w.heap.size by rw [← e1]; simp, e1]
  clear e1
  obtain ⟨b3, hB3⟩ : ∃ b, x.w.heap.size = b := ⟨_, rfl⟩
  rw [hB3] at p0 p1 p2 s1 ⊢
  clear hB3
  obtain ⟨b6, hB6⟩ : ∃ b, x1.w.heap.size = b := ⟨_, rfl⟩
  obtain ⟨A2, hA2⟩ : ∃ V, x1.w.alloc (.cells #[.int .i64 0, .int .i64 0, .slice none 0 0] 64) = V := ⟨_, rfl⟩
  have hx2 : Below x1.w.heap.size x1.w A2 := hA2 ▸ below_alloc1 _ _
  have B6 : BoxAt A2 b6 (.int .i64 0) (.int .i64 0) (.slice none 0 0) := by
    rw [← hA2, ← hB6]
    exact ⟨by simp, World.cell?_alloc_at _ _ _ 0 rfl, World.cell?_alloc_at _ _ _ 1 rfl, World.cell?_alloc_at _ _ _ 2 rfl, World.frozen?_alloc_at _ _ _ 0 rfl, World.frozen?_alloc_at _ _ _ 1 rfl, World.frozen?_alloc_at _ _ _ 2 rfl⟩
  have hb2 : Below A1.heap.size A1 A2 := x1.h.trans (hx2.mono x1.h.size)
  have hxb6 : xw.heap.size ≤ b6 := by have := x1.h.size; have := hb1.size; omega
  rw [hA2, hB6]
  clear hA2 hB6 hx2 x1 x
  have hbw : Below xw.heap.size xw A2 := hb1.trans (hb2.mono hb1.size)
  replace p0 := Later.cells hb2 p0
  replace p1 := Later.cells hb2 p1
  replace p2 := Later.cells hb2 p2
  replace s1 := Later.sizes hb2 s1
  have HP := Lib.hid (hp.below (hbx.trans (hbw.mono hbx.size)))
  have HF := Lib.hid (hf.below hbw)
  clear hb1 hb2 hf hbx
  have e0 : ∀ y : Later A2, y.w.cell? ⟨b6, 0, none⟩ = some (.int .i64 0) := Later.cell B6.lt B6.c0
  have e1 : ∀ y : Later A2, y.w.cell? ⟨b6, 1, none⟩ = some (.int .i64 0) := Later.cell B6.lt B6.c1
  have e2 : ∀ y : Later A2, y.w.cell? ⟨b6, 2, none⟩ = some (.slice none 0 0) := Later.cell B6.lt B6.c2
  have f0 : ∀ y : Later A2, y.w.frozen? ⟨b6, 0, none⟩ = false := Later.frozen B6.lt B6.f0
  have f1 : ∀ y : Later A2, y.w.frozen? ⟨b6, 1, none⟩ = false := Later.frozen B6.lt B6.f1
  have f2 : ∀ y : Later A2, y.w.frozen? ⟨b6, 2, none⟩ = false := Later.frozen B6.lt B6.f2
  have s6 : ∀ y : Later A2, b6 < y.w.heap.size := Later.size B6.lt
  have hbW := Lib.hid hbw
  clear B6 hbw
  have hset : Hid (∀ (y : Later A2) (u0 u1 u2 : Value), Below xw.heap.size xw (((y.w.setCell ⟨b6, 0, none⟩ u0).setCell ⟨b6, 1, none⟩ u1).setCell ⟨b6, 2, none⟩ u2)) := Lib.hid (fun y u0 u1 u2 => by
    obtain ⟨z1, hz1⟩ := (⟨y.w, below_then hbW.out y⟩ : Later xw).setO hxb6 0 u0
    obtain ⟨z2, hz2⟩ := z1.setO hxb6 1 u1
    obtain ⟨z3, hz3⟩ := z2.setO hxb6 2 u2
    change y.w.setCell _ _ = _ at hz1
    rw [hz1, hz2, hz3]
    exact z3.h)
  have hleaf : Hid (∀ (y : Later A2) (kd ix : Int), surv p m c = .mk kd ix [] → RsEnd xw (surv p m c) (.returned (.tuple #[.agg #[.int .i64 kd, .int .i64 ix, .slice none 0 0], .int .i64 1])) (((y.w.setCell ⟨b6, 0, none⟩ (.int .i64 kd)).setCell ⟨b6, 1, none⟩ (.int .i64 ix)).setCell ⟨b6, 2, none⟩ (.slice none 0 0))) := Lib.hid (fun y kd ix he => by
    rw [he]
    have h1 : szN (Nd.mk kd ix []) = 1 := by simp [szN, szL]
    refine ⟨_, by rw [h1]; rfl, ⟨_, _, _, rfl⟩, hset.out y _ _ _, isNd_leaf _ _ _⟩)
  show Code.wp _ _ _ _ (Later.now A2).w
  generalize Later.now A2 = x1
  have htw := Lib.hid (fun y : Later A2 => rtwice y _ _ _ _ p c HP.out HF.out (by omega) hco)
  obtain ⟨ti, hti⟩ : ∃ n, twN p c = n := ⟨_, rfl⟩
  rw [hti] at htw
  replace hm := Lib.hid hm
  replace hsz1 := Lib.hid hsz1
  go_upto_region 2 with (go_at_call 151; refine (htw.out x1).mono ?_; rintro e w' ⟨rfl, x1, rfl⟩)
  cases htw0 : twinO p c with
  | some i =>
    have hti2 : ti = (i : Nat) := by rw [← hti]; unfold twN; rw [htw0]
    subst hti2
    have hsv : Hid (surv p m c = .mk 3 (i : Nat) []) := Lib.hid (surv_twin htw0)
    replace htw0 := Lib.hid htw0
    replace hti := Lib.hid hti
    have h0i : (0 : Int) ≤ (i : Int) := by omega
    go_wp2
    obtain ⟨t0, t1, t2⟩ := three_set (u0 := .int .i64 3) (u1 := .int .i64 i) (u2 := .slice none 0 0) (e0 x1) (e1 x1) (e2 x1)
    refine bodyPost_ret (results_ct rfl rfl (loadVar_nodeR t0 t1 t2)) rfl ?_
    exact hleaf.out x1 3 i hsv.out
  | none =>
    have hti2 : ti = -1 := by rw [← hti]; unfold twN; rw [htw0]
    subst hti2
    have htn := Lib.hid htw0
    clear htw0 hti htw
    obtain ⟨_, _, hqq, _, hrx⟩ := HP.out.rules.opened
    cases hqq
    go_wp2
    go_loopw [9] (fun iv wr => ∃ i : Nat, i ≤ p.rules.length ∧ iv = .int .i64 i ∧ (∃ y : Later A2, wr = y.w) ∧ ∀ j, j < i → brokenB (nth p.rules j) c = false) (fun iv _ => p.rules.length - (intOf iv).toNat)
    case atStart => exact ⟨0, Nat.zero_le _, rfl, ⟨x1, rfl⟩, by omega⟩
    case round =>
      clear x1
      obtain ⟨i, hi, rfl, ⟨x, rfl⟩, hno⟩ := hrel
      replace hno := Lib.hid hno
      by_cases hlt : i < p.rules.length
      · obtain ⟨bk, ok, rfl, hbk, u2, u3, u6, r0, r1, r2, r3, r4, r5, r6, hR⟩ := hrx.out i hlt
        have hbr := Lib.hid (fun y : Later A2 => rnever y _ _ _ u2 u3 u6 _ p (nth p.rules i) c HP.out hR HF.out hval (valid_rule hval hlt) (by omega))
        obtain ⟨aq, cq, rfl, _, _⟩ := hR.panes.opened
        obtain ⟨ah, ch, rfl, _, _⟩ := hR.hits.opened
        obtain ⟨ak2, ck2, rfl, _, _⟩ := hR.ok.opened
        clear hR
        cases hB : brokenB (nth p.rules i) c <;> rw [hB] at hbr
        · go_wp2
          refine wp_region_later x (by kernel_rfl) (by kernel_rfl) ?_
          repeat (go_big_quiet_step ((go_at_call 152; exact hbr.out _)))
          refine wpQuiet_nil ?_
          rintro _ ⟨x, rfl⟩
          go_wp2
          go_roundw
          case rel => exact ⟨i + 1, by omega, by go_num, ⟨x, rfl⟩, all_step hno.out hB⟩
          case measure => simp [intOf]; omega
        · have hsv : Hid (surv p m c = .mk 4 (i : Nat) []) := Lib.hid (surv_rule htn.out (find_range hlt hB hno.out))
          replace hB := Lib.hid hB
          go_wp2
          refine wp_region_later x (by kernel_rfl) (by kernel_rfl) ?_
          repeat (go_big_quiet_step ((go_at_call 152; exact hbr.out _)))
          refine wpQuiet_nil ?_
          rintro _ ⟨x, rfl⟩
          go_wp2
          obtain ⟨t0, t1, t2⟩ := three_set (u0 := .int .i64 4) (u1 := .int .i64 i) (u2 := .slice none 0 0) (e0 x) (e1 x) (e2 x)
          refine bodyPost_ret (results_ct rfl rfl (loadVar_nodeR t0 t1 t2)) rfl ?_
          exact hleaf.out x 4 i hsv.out
      · obtain rfl : i = p.rules.length := by omega
        have hbo := Lib.hid (show brokenO p c = none from find_rangeN hno.out)
        have hlen := Lib.hid (valid_len hval)
        clear hno
        cases m with
        | zero =>
          have hsv : Hid (surv p 0 c = .mk 2 0 []) := Lib.hid (surv_leaf htn.out hbo.out)
          have hcp : c.length = p.panes.length := by have := hlen.out; omega
          have hcp2 : ((c.length : Int) == (p.panes.length : Int)) = true := by simp [hcp]
          replace hcp := Lib.hid hcp
          go_wp2
          obtain ⟨t0, t1, t2⟩ := three_set (u0 := .int .i64 2) (u1 := .int .i64 0) (u2 := .slice none 0 0) (e0 x) (e1 x) (e2 x)
          refine bodyPost_ret (results_ct rfl rfl (loadVar_nodeR t0 t1 t2)) rfl ?_
          exact hleaf.out x 2 0 hsv.out
        | succ m =>
          have hcp : c.length < p.opts.length := by omega
          have hcp2 : ((c.length : Int) == (p.panes.length : Int)) = false := by have := hlen.out; simp; omega
          obtain ⟨_, _, hqq, _, hopts⟩ := HP.out.opts.opened
          cases hqq
          obtain ⟨bo, oo, rfl, hbo', uo, co0, hO⟩ := hopts.out c.length hcp
          obtain ⟨av, cv, rfl, lv, _⟩ := hO.opened
          clear hO hopts hrx
          go_upto_region 13 with (fail)
          obtain ⟨b8, hB8⟩ : ∃ b, x.w.heap.size = b := ⟨_, rfl⟩
          obtain ⟨Wc, hWc⟩ : ∃ V, x.w.alloc (.cells #[.int .i64 1, .int .i64 c.length, .slice none 0 0] 64) = V := ⟨_, rfl⟩
          have hbc : Below A2.heap.size A2 Wc := by rw [← hWc]; exact x.h.alloc x.h.size _
          have h8A : A2.heap.size ≤ b8 := hB8 ▸ x.h.size
          have h68 : b6 < b8 := hB8 ▸ s6 x
          have B8 : BoxAt Wc b8 (.int .i64 1) (.int .i64 c.length) (.slice none 0 0) := by
            rw [← hWc, ← hB8]
            exact ⟨by simp, World.cell?_alloc_at _ _ _ 0 rfl, World.cell?_alloc_at _ _ _ 1 rfl, World.cell?_alloc_at _ _ _ 2 rfl, World.frozen?_alloc_at _ _ _ 0 rfl, World.frozen?_alloc_at _ _ _ 1 rfl, World.frozen?_alloc_at _ _ _ 2 rfl⟩
          rw [hWc, hB8]
          clear hWc hB8 x
          obtain ⟨K, hK⟩ : ∃ K, (nth p.opts c.length).length = K := ⟨_, rfl⟩
          have hsz : Hid (szN (surv p (m + 1) c) = 1 + szL (survTo p m c K)) := Lib.hid (by rw [surv_branch htn.out hbo.out, hK]; rfl)
          have hsv : Hid (surv p (m + 1) c = .mk 1 c.length (survTo p m c K)) := Lib.hid (by rw [surv_branch htn.out hbo.out, hK])
          have hKb : K ≤ 300 := by rw [← hK]; have := (valid_opts hval hcp).2; omega
          rw [hK] at co0
          replace hK := Lib.hid hK
          go_wp2
          go_loopw [12, 13] (fun nv ov wr => ∃ k : Nat, k ≤ K ∧ ov = .int .i64 k ∧ nv = .int .i64 ((1 + szL (survTo p m c k) : Nat) : Int) ∧ Below A2.heap.size A2 wr ∧ ∃ v, BoxAt wr b8 (.int .i64 1) (.int .i64 c.length) v ∧ KidRow wr b8 b8 v (survTo p m c k)) (fun _ ov _ => K - (intOf ov).toNat)
          case atStart => exact ⟨0, Nat.zero_le _, rfl, rfl, hbc, _, B8, KidRow.nil _ _ _⟩
          case round =>
            clear hbc B8
            obtain ⟨k, hkK, rfl, rfl, hbA, v, hbx, hrow⟩ := hrel
            by_cases hlt : k < K
            · have hn9 := survTo_len p m c k
              obtain ⟨tk, htk⟩ : ∃ q, surv p m (c ++ [(k : Int)]) = q := ⟨_, rfl⟩
              have hstep : Hid (survTo p m c (k + 1) = survTo p m c k ++ [tk]) := Lib.hid (by rw [← htk]; exact survTo_succ p m c k)
              have hszk : Hid (szL (survTo p m c (k + 1)) = szL (survTo p m c k) + szN tk) := Lib.hid (by rw [hstep.out, szL_append]; simp [szL])
              have hle : ((1 + szL (survTo p m c k) : Nat) : Int) + (szN tk : Nat) ≤ most := by
                have h1 := surv_monoR p m c K (k + 1) (by omega)
                have h2 := hszk.out
                have h3 := hsz.out
                have h4 := hm.out
                omega
              have hbw : Below Wb.heap.size Wb wr := (hbX.out.trans (hbW.out.mono hbX.out.size)).trans (hbA.mono (Nat.le_trans hbX.out.size hbW.out.size))
              have hfw : IsInts wr (.slice af c.length cf) c := HF.out.below hbA
              have hFw := Lib.hid hfw
              have hIH := Lib.hid (fun (y : Later wr) (vf : Value) (hi : IsInts y.w vf (c ++ [(k : Int)])) => hkid m rfl (c ++ [(k : Int)]) (by simp; omega) (fun i hi => by
                rw [List.length_append, List.length_singleton] at hi
                rcases Nat.lt_succ_iff_lt_or_eq.1 hi with h3 | rfl
                · rw [nth_append_left h3]; exact hco i h3
                · rw [nth_snoc]; have := hK.out; omega) y.w vf (most - ((1 + szL (survTo p m c k) : Nat) : Int)) (hbw.trans (y.h.mono hbw.size)) hi (by rw [htk]; omega) (by omega))
              rw [htk] at hIH
              have hsl := Lib.hid hszk.out
              obtain ⟨S1, hS1⟩ : ∃ q, szL (survTo p m c k) = q := ⟨_, rfl⟩
              obtain ⟨S2, hS2⟩ : ∃ q, szN tk = q := ⟨_, rfl⟩
              obtain ⟨kN, hkN⟩ : ∃ q, tk.kind = q := ⟨_, rfl⟩
              obtain ⟨kI, hkI⟩ : ∃ q, tk.index = q := ⟨_, rfl⟩
              rw [hS1] at hle hIH hsl
              rw [show ((1 + S1 : Nat) : Int) = 1 + (S1 : Int) by omega] at hIH
              rw [hS2] at hle hsl
              rw [hS1]
              have hIH2 := Lib.hid (fun (y : Later wr) (vf : Value) (hi : IsInts y.w vf (c ++ [(k : Int)])) => (hIH.out y vf hi).mono (R' := fun e w' => ∃ q, e = .returned (.tuple #[.agg #[.int .i64 kN, .int .i64 kI, q], .int .i64 (S2 : Nat)]) ∧ isSl q ∧ Below y.w.heap.size y.w w' ∧ IsNd (wout (fun q => decide (q < y.w.heap.size)) w') q tk) (fun e w' h => by rw [← hkN, ← hkI, ← hS2]; exact h))
              have w0 := p0 ⟨wr, hbA⟩
              have w1 := p1 ⟨wr, hbA⟩
              have w2 := p2 ⟨wr, hbA⟩
              have wo := co0 ⟨wr, hbA⟩
              have wbo := hbo' ⟨wr, hbA⟩
              change wr.cell? _ = _ at w0 w1 w2 wo
              change _ < wr.heap.size at wbo
              have wz3 := block_lt_of_cell w0
              have hb8w : b8 < wr.heap.size := hbx.lt
              have hlt2 := Lib.hid (fun g hg => (let ⟨us, h1, _⟩ := hrow.row; (h1.lt g hg).2 : g < wr.heap.size))
              have hn300 : (survTo p m c k).length ≤ 300 := by omega
              have hc64 : c.length ≤ 64 := by have := valid_pane64 hval; have := hlen.out; omega
              have e12 := hbx.c2
              replace hbx := Lib.hid hbx
              replace hrow := Lib.hid hrow
              have hbA' := Lib.hid hbA
              replace hn9 := Lib.hid hn9
              replace hS1 := Lib.hid hS1
              replace hS2 := Lib.hid hS2
              have hSKb := Lib.hid (fun (w' : World) (h : Below wr.heap.size wr w') => (⟨p0 ⟨w', hbA.trans (h.mono hbA.size)⟩, p1 ⟨w', hbA.trans (h.mono hbA.size)⟩, p2 ⟨w', hbA.trans (h.mono hbA.size)⟩⟩ : w'.cell? ⟨b3, 0, none⟩ = some (.slice ap p.panes.length cp) ∧ w'.cell? ⟨b3, 1, none⟩ = some (.slice (some ⟨bo, oo, none⟩) p.opts.length co) ∧ w'.cell? ⟨b3, 2, none⟩ = some (.slice ar p.rules.length cr)))
              clear hIH hfw hbA
              have hwr : IntKind.i64.wrap (most - (1 + (S1 : Int))) = most - (1 + (S1 : Int)) := by rw [IntKind.wrap_i64]; omega
              go_upto_region 17 with (fail)
              have hIH3 : Hid (∀ (xw : World) (_ : Below wr.heap.size wr xw) (vf : Value) (_ : IsInts xw vf (c ++ [(k : Int)])), Calls Try.prog 118 #[.agg #[.slice ap p.panes.length cp, .slice (some ⟨bo, oo, none⟩) p.opts.length co, .slice ar p.rules.length cr], vf, .int .i64 (most - (1 + (S1 : Int)))] xw (fun e w' => ∃ q, e = .returned (.tuple #[.agg #[.int .i64 kN, .int .i64 kI, q], .int .i64 (S2 : Nat)]) ∧ isSl q ∧ Below xw.heap.size xw w' ∧ IsNd (wout (fun q => decide (q < xw.heap.size)) w') q tk)) := Lib.hid (fun xw hb vf hi => hIH2.out ⟨xw, hb⟩ vf hi)
              clear hIH2
              go_region_held3 (fun w' => w'.cell? ⟨b3, 0, none⟩ = some (.slice ap p.panes.length cp) ∧ w'.cell? ⟨b3, 1, none⟩ = some (.slice (some ⟨bo, oo, none⟩) p.opts.length co) ∧ w'.cell? ⟨b3, 2, none⟩ = some (.slice ar p.rules.length cr)) ((refine hSKb.out _ ?_; ((try refine Below.drew ?_); (repeat (first | exact hb7.out | exact Later.h _ | exact Below.refl _ _ | refine Below.setCell (p := ⟨_, _, none⟩) ?_ (by first | omega | (simp; done) | (simp; omega)) _ | refine Below.alloc ?_ (by first | omega | (simp; done) | (simp; omega)) _))))) (first | (have hx := ho2; clear hx; have hI6 := (ints_fresh ho2 (by omega)).cov (cov_all _ _); go_simp; go_at_call 118; refine (hIH3.out _ (by ((try refine Below.drew ?_); (repeat (first | exact hb7.out | exact Later.h _ | exact Below.refl _ _ | refine Below.setCell (p := ⟨_, _, none⟩) ?_ (by first | omega | (simp; done) | (simp; omega)) _ | refine Below.alloc ?_ (by first | omega | (simp; done) | (simp; omega)) _)))) _ (by first | exact hI6 | exact hI6.below (below_alloc1 _ _))).mono ?_; rintro e w7 ⟨_, rfl, ⟨A9, l9, c9, rfl⟩, hg7, hn7⟩; have hb7 := Lib.hid (Below.trans (by ((try refine Below.drew ?_); (repeat (first | exact hb7.out | exact Later.h _ | exact Below.refl _ _ | refine Below.setCell (p := ⟨_, _, none⟩) ?_ (by first | omega | (simp; done) | (simp; omega)) _ | refine Below.alloc ?_ (by first | omega | (simp; done) | (simp; omega)) _))) : Below wr.heap.size wr _) (hg7.mono (Below.size (by ((try refine Below.drew ?_); (repeat (first | exact hb7.out | exact Later.h _ | exact Below.refl _ _ | refine Below.setCell (p := ⟨_, _, none⟩) ?_ (by first | omega | (simp; done) | (simp; omega)) _ | refine Below.alloc ?_ (by first | omega | (simp; done) | (simp; omega)) _))) : Below wr.heap.size wr _)))); have hw7 := hb7.out.size; (first | (have hql := hq.lt; have hq7 := hq.below hg7; have m0 := hq7.c0; have m1 := hq7.c1; have m2 := hq7.c2; have g0 := hq7.f0; have g1 := hq7.f1; have g2 := hq7.f2; have gz := hq7.lt; replace hq7 := Lib.hid hq7; clear hq) | (have hq7 := (box_new y2.w).below hg7; have m0 := hq7.c0; have m1 := hq7.c1; have m2 := hq7.c2; have g0 := hq7.f0; have g1 := hq7.f1; have g2 := hq7.f2; have gz := hq7.lt; replace hq7 := Lib.hid hq7) | skip); replace hn7 := Lib.hid hn7; replace hg7 := Lib.hid hg7; clear hI6 ho2 ho1; try dsimp only) | (have hx := hk1; clear hx; refine step_app2 wr (by ((try refine Below.drew ?_); (repeat (first | exact hb7.out | exact Later.h _ | exact Below.refl _ _ | refine Below.setCell (p := ⟨_, _, none⟩) ?_ (by first | omega | (simp; done) | (simp; omega)) _ | refine Below.alloc ?_ (by first | omega | (simp; done) | (simp; omega)) _)))) rfl (.tmp 69) (.tmp 71) rfl A5 c5 c (by first | exact ho1 | exact owns_later ho1 (below_alloc1 _ _) | exact owns_later (owns_later ho1 (below_alloc1 _ _)) (below_alloc1 _ _)) _ k (by first | exact ho.2 | exact (ho.alloc1 _).2 | exact (one_new _ _).2 | exact ((one_new _ _).alloc1 _).2 | exact (one_new' _ _ (by simp) _).2 | exact ((one_new' _ _ (by simp) _).alloc1 _).2) (by omega) rfl rfl ?_; intro A6 c6 y2 ho2 hk2; have hy2 := y2.h.size; (first | (replace hq := BoxAt.keeps1 (by first | exact hq | exact hq.alloc1 _) hk2 (fun e => by rcases hn1 _ e with h | h <;> first | omega | (simp at h; done) | (simp at h; omega))) | (have hq := BoxAt.keeps1 (by first | exact box_new _ | exact (box_new _).alloc1 _) hk2 (fun e => absurd (ho1.lt _ e).2 (by first | omega | (simp; done) | (simp; omega))); try simp at hq) | skip); clear hk1 hk2 hn1) | (refine step_app1 wr (by ((try refine Below.drew ?_); (repeat (first | exact hb7.out | exact Later.h _ | exact Below.refl _ _ | refine Below.setCell (p := ⟨_, _, none⟩) ?_ (by first | omega | (simp; done) | (simp; omega)) _ | refine Below.alloc ?_ (by first | omega | (simp; done) | (simp; omega)) _)))) rfl (.tmp 67) (.tmp 68) rfl _ (by ((try refine World.ownsRow.drew ?_); first | exact own_lit0 _ _ _ (by simp) (by first | omega | (simp; omega)) | exact owns_later (own_lit0 _ _ _ (by simp) (by first | omega | (simp; omega))) (below_alloc1 _ _) | exact owns_later (owns_later (own_lit0 _ _ _ (by simp) (by first | omega | (simp; omega))) (below_alloc1 _ _)) (below_alloc1 _ _))) af c cf hFw.out (by omega) rfl rfl ?_; intro A5 c5 y1 ho1 hk1 hn1; have hy1 := y1.h.size; (first | (have hq := BoxAt.keeps1 (by first | exact (box_new _).drew1 | exact ((box_new _).alloc1 _).drew1 | exact (((box_new _).alloc1 _).alloc1 _).drew1) hk1 (by first | omega | (simp; done) | (simp; omega)); try simp at hq) | skip); (first | (have ho := OneAt.keeps1 (by first | exact (one_new _ (Value.int .i64 k)).drew1 | exact ((one_new _ (Value.int .i64 k)).alloc1 _).drew1 | exact (((one_new _ (Value.int .i64 k)).alloc1 _).alloc1 _).drew1) hk1 (by first | omega | (simp; done) | (simp; omega)); try simp at ho) | skip)) | fail)
              all_goals as_aux_lemma =>
                first
                  | (obtain ⟨W8, hW8, k1, k2, k3⟩ := kidB (a := .int .i64 kN) (b := .int .i64 kI) hb7.out hn7.out hq7.out (by first | omega | (simp; done) | (simp; omega)) (by first | omega | (simp; done) | (simp; omega)); rw [hW8])
                  | (obtain ⟨W8, hW8, k1, k2, k3⟩ := kidA (a := .int .i64 kN) (b := .int .i64 kI) (by first | omega | (simp; done) | (simp; omega)) hb7.out hn7.out; rw [hW8])
                have hb8 := hbx.out.below k1
                have hrA := Lib.hid ((hrow.out.below k1).below (below_alloc1 W8 (.cells #[.int .i64 kN, .int .i64 kI, .slice A9 l9 c9] 64)))
                have hbA8 := Lib.hid (hb8.below (below_alloc1 W8 (.cells #[.int .i64 kN, .int .i64 kI, .slice A9 l9 c9] 64)))
                have hgA := Lib.hid ((hbA'.out.trans (k1.mono hbA'.out.size)).alloc (Nat.le_trans hbA'.out.size k1.size) (.cells #[.int .i64 kN, .int .i64 kI, .slice A9 l9 c9] 64))
                have hnA := Lib.hid (k3.cov (cov_below (below_alloc1 W8 (.cells #[.int .i64 kN, .int .i64 kI, .slice A9 l9 c9] 64))) _)
                have z0 := k2.c0
                have z1 := k2.c1
                have z2 := k2.c2
                have zl := k2.lt
                have y8 := hb8.c2
                have l8 := hb8.lt
                clear hW8 k1 k2 k3 hb8 hn7 hb7
                go_upto_region 19 with (at_builtin; obtain ⟨us, ho1, ho2, ho3⟩ := hrA.out.row; refine wpList_appX rfl _ _ 62 rfl 64 _ 3 40 Try.info64 rfl (by decide) Try.underlying62 v (survTo p m c k).length (us.flatMap ndCells) b8 ho1 (by simp; omega) ⟨W8.heap.size, 0, none⟩ 1 1 (ndCells (tk, .slice A9 l9 c9)) rfl (by rfl) (by rfl) (by rw [← hkN, ← hkI]; exact cells_new _ _ _) (by simp [ndCells, Value.oneCell']) (by omega) (by omega) ?_; intro v' w' ho hgr h5; obtain ⟨A10, c10, rfl⟩ := owns_slice ho; have hst := kid_step0 hgA.out h8A hbA8.out ho2 ho3 hrA.out.ne (n := wr.heap.size) hb8w hlt2.out _ tk hnA.out ho hgr h5; have q2 := hst.1.c2; have qf := hst.1.f2; have ql := hst.1.lt; have hst2 := Lib.hid hst.2; clear hst ho hgr h5 ho1 ho2 ho3)
                go_wp2
                go_roundw
                case rel => exact ⟨k + 1, by omega, by go_num, by rw [hsl.out]; go_num, hst2.out.1, _, hst2.out.2.1, by rw [hstep.out]; exact hst2.out.2.2⟩
                case measure => simp [intOf]; omega
            · obtain rfl : k = K := by omega
              have hend := hrow.is (by have := survTo_len p m c k; omega) 1 c.length
              obtain ⟨us, hu1, hu2, hu3⟩ := hrow.row
              obtain ⟨A8, c8, rfl⟩ := owns_slice hu1
              clear hu1 hu2 hu3 us
              have q0 := hbx.c0
              have q1 := hbx.c1
              have q2 := hbx.c2
              have n8 := hbx.lt
              obtain ⟨y, rfl⟩ : ∃ y : Later A2, wr = y.w := ⟨⟨wr, hbA⟩, rfl⟩
              replace hend := Lib.hid hend
              replace hrow := Lib.hid hrow
              have hxb8 : xw.heap.size ≤ b8 := by omega
              clear hbx hbA
              go_wp2
              obtain ⟨t0, t1, t2⟩ := three_set (u0 := .int .i64 1) (u1 := .int .i64 c.length) (u2 := .slice A8 (survTo p m c k).length c8) (e0 y) (e1 y) (e2 y)
              refine bodyPost_ret (results_ct rfl rfl (loadVar_nodeR t0 t1 t2)) rfl ?_
              rw [hsv.out]
              refine ⟨_, by rw [szN]; rfl, ⟨_, _, _, rfl⟩, hset.out y _ _ _, ?_⟩
              refine hend.out.cov (cov_out (by simp [World.setCell]) fun k hk hP => ?_) _
              have h8 := (hidB_no.1 hP).1
              refine ⟨by simp; omega, ?_⟩
              rw [set_block (by omega), set_block (by omega), set_block (by omega)]
theorem rsurvey {Wb : World} (p : Prob) (v0 v1 v2 : Value) (hp : IsProb Wb v0 v1 v2 p) (hval : validP p = true) : ∀ m, RsNode Wb p v0 v1 v2 m
  | 0 => rsurvey_core p v0 v1 v2 0 hp hval (fun m' h => by cases h)
  | m + 1 => rsurvey_core p v0 v1 v2 (m + 1) hp hval (fun m' h => by cases h; exact rsurvey p v0 v1 v2 hp hval m)
end Go.Proofs.Ytmpkbolabdmkkaa
