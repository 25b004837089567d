/- CONTRACTS of Check and of what it runs. -/
import Derived.Test.YtmpkbolabdmkkaaZSuL
import Derived.Test.YtmpkbolabdmkkaaZSuG
namespace Go.Proofs.Ytmpkbolabdmkkaa
open Go.RowKit

theorem pcnode {W : World} (p : Prob) (v0 v1 v2 vt : Value) (vs : List Value) (bc sx : Nat) (hp : IsProb W v0 v1 v2 p) (hcap : ProbCap W v2) (hval : validP p = true) (n : Nd) : CkNode W p bc sx v0 v1 v2 vt vs n :=
  pcnode_core p v0 v1 v2 vt vs bc sx n hp hcap hval (fun m _ => pcnode p v0 v1 v2 vt vs bc sx hp hcap hval m)
termination_by SizeOf.sizeOf n
decreasing_by exact nd_size n m (by assumption)

set_option maxRecDepth 100000 in
set_option maxHeartbeats 1000000 in
theorem pcheck1 {W A : World} (p : Prob) (v0 v1 v2 vt k : Value) (vs : List Value) (t : List (List Bool)) (bc sx b3 : Nat) (n : Nd) (hp : IsProb W v0 v1 v2 p) (hcap : ProbCap W v2) (hval : validP p = true) (hC : ChkAt W A bc sx v0 v1 v2 vt vs 0 0 t) (hk : IsNd W k n)
    (ht1 : t.length = p.opts.length) (ht2 : ∀ i, (nth t i).length = (nth p.opts i).length) (hN : szN n ≤ 200000) (m3 : BoxAt A b3 (.int .i64 n.kind) (.int .i64 n.index) k) :
    Calls Try.prog 120 #[.pointer (some ⟨sx, 0, none⟩), .pointer (some ⟨b3, 0, none⟩)] A (CkEnd W A bc sx v0 v1 v2 vt vs 0 0 t p n []) := by
  have hn := Lib.hid (pcnode p v0 v1 v2 vt vs bc sx hp hcap hval n A k (.slice none 0 0) t 0 0 [] hC hk (isInts_nil _) ht1 ht2 (Nat.zero_le _) (fun i hi => absurd hi (Nat.not_lt_zero _)) (by omega) (Nat.le_refl _))
  obtain ⟨ak, ck, rfl, _, _⟩ := hk.opened
  have q0 := hC.sp
  have qz := hC.spl
  have g0 := m3.c0
  have g1 := m3.c1
  have g2 := m3.c2
  have gz := m3.lt
  clear hC hk ht1 ht2 hN
  obtain ⟨kN, hkN⟩ : ∃ q, n.kind = q := ⟨_, rfl⟩
  obtain ⟨kI, hkI⟩ : ∃ q, n.index = q := ⟨_, rfl⟩
  rw [hkN] at g0 hn
  rw [hkI] at g1 hn
  cases hK : okN p n []
  · have hIH := Lib.hid (hn.out.mono (R' := fun e w' => e = .panicked unlawful ∧ CkEnd W A bc sx v0 v1 v2 vt vs 0 0 t p n [] e w') (fun e w' h => ⟨h.elim (fun h => by rw [hK] at h; cases h.1) (fun h => h.2.1), h⟩))
    go_enter Try.func120, Try.ntmps120
    go_wp2_with (go_at_call 121; refine hIH.out.mono ?_; rintro e w7 ⟨rfl, hfin⟩)
    exact ⟨rfl, hfin⟩
  · have hIH := Lib.hid (hn.out.mono (R' := fun e w' => e = .returned (.tuple #[]) ∧ CkEnd W A bc sx v0 v1 v2 vt vs 0 0 t p n [] e w') (fun e w' h => ⟨h.elim (fun h => h.2.1) (fun h => by rw [hK] at h; cases h.1), h⟩))
    go_enter Try.func120, Try.ntmps120
    go_wp2_with (go_at_call 121; refine hIH.out.mono ?_; rintro e w7 ⟨rfl, hfin⟩)
    go_end0
    exact hfin

theorem chk_new {W2 D F : World} (hD : Below W2.heap.size W2 D) {y : Later D} {v0 v1 v2 vt : Value} {t : List (List Bool)} {vs : List Value} (ht : OwnTab y vt t vs) {bc b8 : Nat} (hg : y.w.grownBy F (some b8)) (h8 : b8 < D.heap.size ∨ y.w.heap.size ≤ b8) (h8W : W2.heap.size ≤ b8) (hbc : y.w.heap.size ≤ bc)
    (hbcF : bc < F.heap.size) (h8F : b8 < F.heap.size) (hne : b8 ≠ bc) (c0 : F.cell? ⟨bc, 0, none⟩ = some v0) (c1 : F.cell? ⟨bc, 1, none⟩ = some v1) (c2 : F.cell? ⟨bc, 2, none⟩ = some v2) (c3 : F.cell? ⟨bc, 3, none⟩ = some (.int .i64 0)) (c4 : F.cell? ⟨bc, 4, none⟩ = some (.int .i64 0)) (c5 : F.cell? ⟨bc, 5, none⟩ = some vt)
    (f3 : F.frozen? ⟨bc, 3, none⟩ = false) (f4 : F.frozen? ⟨bc, 4, none⟩ = false) (sp : F.cell? ⟨b8, 0, none⟩ = some (.pointer (some ⟨bc, 0, none⟩))) : ChkAt W2 F bc b8 v0 v1 v2 vt vs 0 0 t := by
  have hvt : ∀ b, vt.ownBlock = some b → D.heap.size ≤ b ∧ b < y.w.heap.size := fun b hb => ht.outer.lt b hb
  have hvs : ∀ (i : Nat) (q : Value) (b : Nat), vs[i]? = some q → q.ownBlock = some b → D.heap.size ≤ b ∧ b < y.w.heap.size := fun i q b hq hb => by
    have hi : i < t.length := by rw [← ht.len]; exact (List.getElem?_eq_some_iff.1 hq).1
    obtain ⟨u, hu, hI⟩ := ht.rows i hi
    rw [hq] at hu; cases hu
    exact hI.lt b hb
  obtain ⟨z0, hz0, ht0⟩ := ht.down hD
  have hyW : y.w.heap.size = z0.w.heap.size := by rw [hz0]
  rw [hz0] at hg
  obtain ⟨z, hz⟩ := z0.grown hg (fun k hk => by cases hk; exact h8W)
  subst hz
  refine ⟨⟨z, rfl, ht0.kept hg (fun e => by have := hvt b8 e; omega) (fun i q hq e => by have := hvs i q b8 hq e; omega)⟩, hbcF, c0, c1, c2, c3, c4, c5, f3, f4, fun b hb => by have := hvt b hb; omega, fun i q b hq hb => by have := hvs i q b hq hb; omega, by have := hD.size; have := y.h.size; omega, sp, h8F, hne, fun i q b hq hb => by have := hvs i q b hq hb; omega⟩

theorem grown_of_below {A B : World} (h : Below A.heap.size A B) (s : Nat) : A.grownBy B (some s) := ⟨h.os, h.tape, h.output, h.size, fun k hk _ => h.block k hk⟩
theorem chk_fa {W2 D : World} (hD : Below W2.heap.size W2 D) {y : Later D} {v0 v1 v2 vt : Value} {t : List (List Bool)} {vs : List Value} (ht : OwnTab y vt t vs) :
    ChkAt W2 ((y.w.alloc (.cells #[v0, v1, v2, .int .i64 0, .int .i64 0, vt] 123)).alloc (.cells #[.pointer (some ⟨y.w.heap.size, 0, none⟩)] 121)) y.w.heap.size (y.w.heap.size + 1) v0 v1 v2 vt vs 0 0 t := by
  have hs := y.h.size
  have hs2 := hD.size
  have c : ∀ o, ((y.w.alloc (.cells #[v0, v1, v2, .int .i64 0, .int .i64 0, vt] 123)).alloc (.cells #[.pointer (some ⟨y.w.heap.size, 0, none⟩)] 121)).cell? ⟨y.w.heap.size, o, none⟩ = #[v0, v1, v2, .int .i64 0, .int .i64 0, vt][o]? := fun o => (World.cell?_alloc_past _ _ o (by simp)).trans (World.cell?_alloc_at _ 123 _ o rfl)
  have f : ∀ o, o < 6 → ((y.w.alloc (.cells #[v0, v1, v2, .int .i64 0, .int .i64 0, vt] 123)).alloc (.cells #[.pointer (some ⟨y.w.heap.size, 0, none⟩)] 121)).frozen? ⟨y.w.heap.size, o, none⟩ = false := fun o _ => (World.frozen?_of_block (a := ⟨y.w.heap.size, o, none⟩) ((below_alloc1 _ _).block y.w.heap.size (by simp))).trans (World.frozen?_alloc_at _ 123 _ o (by simp))
  exact chk_new hD ht (grown_of_below ((below_alloc1 _ _).trans ((below_alloc1 _ _).mono (by simp))) _) (.inr (by omega)) (by omega) (Nat.le_refl _) (by simp; omega) (by simp) (by omega) (c 0) (c 1) (c 2) (c 3) (c 4) (c 5) (f 3 (by omega)) (f 4 (by omega)) (World.cell?_alloc_at _ 121 _ 0 (by simp))
theorem chk_fb {W2 D : World} (hD : Below W2.heap.size W2 D) {y : Later D} {v0 v1 v2 vt : Value} {t : List (List Bool)} {vs : List Value} (ht : OwnTab y vt t vs) :
    ChkAt W2 ((y.w.alloc (.cells #[.pointer (some ⟨y.w.heap.size + 1, 0, none⟩)] 121)).alloc (.cells #[v0, v1, v2, .int .i64 0, .int .i64 0, vt] 123)) (y.w.heap.size + 1) y.w.heap.size v0 v1 v2 vt vs 0 0 t := by
  have hs := y.h.size
  have hs2 := hD.size
  have c : ∀ o, ((y.w.alloc (.cells #[.pointer (some ⟨y.w.heap.size + 1, 0, none⟩)] 121)).alloc (.cells #[v0, v1, v2, .int .i64 0, .int .i64 0, vt] 123)).cell? ⟨y.w.heap.size + 1, o, none⟩ = #[v0, v1, v2, .int .i64 0, .int .i64 0, vt][o]? := fun o => World.cell?_alloc_at _ 123 _ o (by simp)
  have f : ∀ o, o < 6 → ((y.w.alloc (.cells #[.pointer (some ⟨y.w.heap.size + 1, 0, none⟩)] 121)).alloc (.cells #[v0, v1, v2, .int .i64 0, .int .i64 0, vt] 123)).frozen? ⟨y.w.heap.size + 1, o, none⟩ = false := fun o _ => World.frozen?_alloc_at _ 123 _ o (by simp)
  exact chk_new hD ht (grown_of_below ((below_alloc1 _ _).trans ((below_alloc1 _ _).mono (by simp))) _) (.inr (Nat.le_refl _)) (by omega) (by omega) (by simp) (by simp; omega) (by omega) (c 0) (c 1) (c 2) (c 3) (c 4) (c 5) (f 3 (by omega)) (f 4 (by omega)) ((World.cell?_alloc_past _ _ 0 (by simp)).trans (World.cell?_alloc_at _ 121 _ 0 rfl))
theorem chk_fc {W2 D : World} (hD : Below W2.heap.size W2 D) {y : Later D} {v0 v1 v2 vt : Value} {t : List (List Bool)} {vs : List Value} (ht : OwnTab y vt t vs) {b8 : Nat} (h8 : b8 < D.heap.size) (h8W : W2.heap.size ≤ b8) {u : Value} (hu : y.w.cell? ⟨b8, 0, none⟩ = some u) :
    ChkAt W2 ((y.w.setCell ⟨b8, 0, none⟩ (.pointer (some ⟨y.w.heap.size, 0, none⟩))).alloc (.cells #[v0, v1, v2, .int .i64 0, .int .i64 0, vt] 123)) y.w.heap.size b8 v0 v1 v2 vt vs 0 0 t := by
  have hs := y.h.size
  have hs2 := hD.size
  have hz : (y.w.setCell ⟨b8, 0, none⟩ (.pointer (some ⟨y.w.heap.size, 0, none⟩))).heap.size = y.w.heap.size := by simp [World.setCell]
  have c : ∀ o, ((y.w.setCell ⟨b8, 0, none⟩ (.pointer (some ⟨y.w.heap.size, 0, none⟩))).alloc (.cells #[v0, v1, v2, .int .i64 0, .int .i64 0, vt] 123)).cell? ⟨y.w.heap.size, o, none⟩ = #[v0, v1, v2, .int .i64 0, .int .i64 0, vt][o]? := fun o => World.cell?_alloc_at _ 123 _ o (by rw [hz])
  have f : ∀ o, o < 6 → ((y.w.setCell ⟨b8, 0, none⟩ (.pointer (some ⟨y.w.heap.size, 0, none⟩))).alloc (.cells #[v0, v1, v2, .int .i64 0, .int .i64 0, vt] 123)).frozen? ⟨y.w.heap.size, o, none⟩ = false := fun o _ => World.frozen?_alloc_at _ 123 _ o (by rw [hz])
  have hg1 : y.w.grownBy (y.w.setCell ⟨b8, 0, none⟩ (.pointer (some ⟨y.w.heap.size, 0, none⟩))) (some b8) := ⟨rfl, rfl, rfl, by simp [World.setCell], fun k _ hk => set_block (fun e => hk (by rw [e]))⟩
  have hg : y.w.grownBy ((y.w.setCell ⟨b8, 0, none⟩ (.pointer (some ⟨y.w.heap.size, 0, none⟩))).alloc (.cells #[v0, v1, v2, .int .i64 0, .int .i64 0, vt] 123)) (some b8) := grown_below hg1 (below_alloc1 _ _)
  exact chk_new hD ht hg (.inl h8) h8W (Nat.le_refl _) (by simp [hz]) (by simp [hz]; omega) (by omega) (c 0) (c 1) (c 2) (c 3) (c 4) (c 5) (f 3 (by omega)) (f 4 (by omega)) ((World.cell?_alloc_past _ _ 0 (by rw [hz]; omega)).trans (World.cell?_setCell_same _ _ _ hu))

def chkE (p : Prob) (n : Nd) : Int := if largeE p ≠ 0 then largeE p else if okN p n [] = true then 0 else 73
def chkC (p : Prob) (n : Nd) : Nat := if chkE p n = 0 then (agN n []).length else 0
def chkT (p : Prob) (n : Nd) : List (List Bool) := if chkE p n = 0 then markAll (fullTab p false) (agN n []) else []
def EndsChk (W : World) (cnt : Nat) (tb : List (List Bool)) (err : Int) (e : Ending) (w' : World) : Prop := ∃ v, e = .returned (.tuple #[.int .i64 cnt, v, .int .i64 err]) ∧ ∃ y : Later W, w' = y.w ∧ IsBoolss y.w v tb
theorem region_cut4 {P : Program} {c : Code} {Q : Exit → Act → World → Prop} {a : Act} {w : World} (Post : Option Addr → Nat → Nat → Nat → World → Prop) (F : Option Addr → Nat → Nat → Nat → Act) (h1 : (∀ A c b d w', Post A c b d w' → Q .normal (F A c b d) w') → c.wp P Q a w) (h2 : ∀ A c b d w', Post A c b d w' → Q .normal (F A c b d) w') : c.wp P Q a w := h1 h2

set_option maxRecDepth 100000 in
set_option maxHeartbeats 4000000 in
theorem pCheck {W : World} (x : Later W) (v0 v1 v2 k : Value) (p : Prob) (n : Nd) (hp : IsProb W v0 v1 v2 p) (hcap : ProbCap W v2) (hk : IsNd W k n) (hN : szN n ≤ 200000) :
    Calls Try.prog 62 #[.agg #[v0, v1, v2], .agg #[.int .i64 n.kind, .int .i64 n.index, k]] x.w (EndsChk W (chkC p n) (chkT p n) (chkE p n)) := by
  have hmf : ∀ (fn : Fn) (first cap : Array Value) (w : World), (Instr.makeFunc fn first cap).run Try.prog w = .ok (.func fn first cap) w := fun _ _ _ _ => rfl
  obtain ⟨ak, ck, rfl, _, _⟩ := hk.opened
  obtain ⟨kN, hkN⟩ : ∃ q, n.kind = q := ⟨_, rfl⟩
  obtain ⟨kI, hkI⟩ : ∃ q, n.index = q := ⟨_, rfl⟩
  rw [hkN, hkI]
  go_enter Try.func62, Try.ntmps62
  go_upto_region 1 with (fail)
  obtain ⟨W1, x1, e1, hb1, s1, p0, p1, p2⟩ := enter3 x v0 v1 v2 26
  rw [show x.w.heap.size + 1 = x1.w.heap.size by rw [← e1]; simp, e1]
  clear e1
  obtain ⟨b2, hB2⟩ : ∃ b, x.w.heap.size = b := ⟨_, rfl⟩
  rw [hB2] at p0 p1 p2 s1 ⊢
  clear hB2
  obtain ⟨b3, hB3⟩ : ∃ b, x1.w.heap.size = b := ⟨_, rfl⟩
  obtain ⟨W2, hW2⟩ : ∃ V, x1.w.alloc (.cells #[.int .i64 kN, .int .i64 kI, .slice ak n.kids.length ck] 64) = V := ⟨_, rfl⟩
  have hx2 : Below x1.w.heap.size x1.w W2 := hW2 ▸ below_alloc1 _ _
  have B3 : BoxAt W2 b3 (.int .i64 kN) (.int .i64 kI) (.slice ak n.kids.length ck) := by
    rw [← hW2, ← hB3]
    exact ⟨by simp, World.cell?_alloc_at _ _ _ 0 rfl, World.cell?_alloc_at _ _ _ 1 rfl, World.cell?_alloc_at _ _ _ 2 rfl, World.frozen?_alloc_at _ _ _ 0 rfl, World.frozen?_alloc_at _ _ _ 1 rfl, World.frozen?_alloc_at _ _ _ 2 rfl⟩
  have hb2 : Below W1.heap.size W1 W2 := x1.h.trans (hx2.mono x1.h.size)
  rw [hW2, hB3]
  clear hW2 hB3 hx2 x1
  have hbw : Below W.heap.size W W2 := hb1.trans (hb2.mono hb1.size)
  have HP := Lib.hid (hp.below hbw)
  have HC := Lib.hid (hcap.below hp.rules hbw)
  have HK := Lib.hid (hk.below hbw)
  obtain ⟨ap, cp, rfl, lp, _⟩ := hp.panes.opened
  obtain ⟨ao, co, rfl, lo, _⟩ := hp.opts.opened
  obtain ⟨ar, cr, rfl, lr, _⟩ := hp.rules.opened
  replace p0 := Later.cells hb2 p0
  replace p1 := Later.cells hb2 p1
  replace p2 := Later.cells hb2 p2
  replace s1 := Later.sizes hb2 s1
  clear hp hcap hk hb1 hb2
  have hA := Lib.hid (fun y : Later W2 => pasked y _ _ _ p true HP.out)
  rw [askE_true] at hA
  replace hN := Lib.hid hN
  show Code.wp _ _ _ _ (Later.now W2).w
  generalize Later.now W2 = x1
  by_cases h0 : largeE p = 0
  case neg =>
    have hb0 : (largeE p != 0) = true := by simp [h0]
    have hE : Hid (chkE p n = largeE p ∧ chkC p n = 0 ∧ chkT p n = []) := Lib.hid (by
      have h1 : chkE p n = largeE p := by unfold chkE; rw [if_pos h0]
      exact ⟨h1, by unfold chkC; rw [h1, if_neg h0], by unfold chkT; rw [h1, if_neg h0]⟩)
    clear h0
    go_wp2_with (go_at_call 65; refine (hA.out _).mono ?_; rintro e w' ⟨rfl, x1, rfl⟩)
    go_ret3
    exact ⟨_, by rw [hE.out.1, hE.out.2.1]; rfl, ⟨x1.w, below_then hbw x1⟩, rfl, by rw [hE.out.2.2]; exact isBoolss_nil _⟩
  have hb0 : (largeE p != 0) = false := by simp [h0]
  obtain ⟨hval, _⟩ := largeE_0.1 h0
  replace h0 := Lib.hid h0
  go_upto_region 4 with (go_at_call 65; refine (hA.out _).mono ?_; rintro e w' ⟨rfl, x1, rfl⟩)
  clear hA
  refine region_cut4 (fun A c bc b8 w' => ∃ vs, ChkAt W2 w' bc b8 (.slice ap p.panes.length cp) (.slice ao p.opts.length co) (.slice ar p.rules.length cr) (.slice A (fullTab p false).length c) vs 0 0 (fullTab p false)) ?F ?paths ?cont
  case paths =>
    intro hcont
    obtain ⟨D1, hD1e⟩ : ∃ D, D = x1.w.drew := ⟨_, rfl⟩
    have hD1 : Below x1.w.heap.size x1.w D1 := hD1e ▸ Below.drew (Below.refl _ _)
    have hT1 := Lib.hid (ptable (Later.now D1) _ _ _ p false ((HP.out.below x1.h).below hD1) hval)
    obtain ⟨D2, hD2e⟩ : ∃ D, D = (x1.w.alloc (.cells #[.pointer none] 121)).drew := ⟨_, rfl⟩
    have hD2 : Below x1.w.heap.size x1.w D2 := hD2e ▸ (below_alloc1 _ _).drew
    have hD2s : D2.heap.size = x1.w.heap.size + 1 := by rw [hD2e]; simp
    have h8c : Hid (∀ y : Later D2, y.w.cell? ⟨x1.w.heap.size, 0, none⟩ = some (.pointer none) ∧ y.w.frozen? ⟨x1.w.heap.size, 0, none⟩ = false ∧ x1.w.heap.size < y.w.heap.size) := Lib.hid (fun y => ⟨Later.cell (by omega) (by rw [hD2e]; exact (World.cell?_alloc_at _ _ _ 0 rfl)) y, Later.frozen (by omega) (by rw [hD2e]; exact (World.frozen?_alloc_at _ _ _ 0 rfl)) y, Later.size (by omega) y⟩)
    have hatp := Lib.hid (fun y : Later x1.w => (⟨p0 (x1.up y), p1 (x1.up y), p2 (x1.up y), s1 (x1.up y)⟩ : y.w.cell? ⟨b2, 0, none⟩ = some (.slice ap p.panes.length cp) ∧ y.w.cell? ⟨b2, 1, none⟩ = some (.slice ao p.opts.length co) ∧ y.w.cell? ⟨b2, 2, none⟩ = some (.slice ar p.rules.length cr) ∧ b2 < y.w.heap.size))
    have hT2 := Lib.hid (ptable (Later.now D2) _ _ _ p false ((HP.out.below x1.h).below hD2) hval)
    replace hD2e := Lib.hid hD2e
    replace hD2 := Lib.hid hD2
    replace hD2s := Lib.hid hD2s
    replace hD1e := Lib.hid hD1e
    replace hD1 := Lib.hid hD1
    go_region_law (first | (go_simp; go_at_call 103; rw [← hD1e.out]; refine hT1.out.mono ?_; rintro e w' ⟨v, rfl, y1, rfl, vs, ht, hsn⟩; obtain ⟨A5, c5, rfl⟩ := ht.slice; obtain ⟨q0, q1, q2, q3⟩ := hatp.out ⟨y1.w, below_then hD1.out y1⟩; change y1.w.cell? _ = _ at q0 q1 q2; change _ < y1.w.heap.size at q3) | (go_simp; go_at_call 103; rw [← hD2e.out]; refine hT2.out.mono ?_; rintro e w' ⟨v, rfl, y2, rfl, vs, ht, hsn⟩; obtain ⟨A5, c5, rfl⟩ := ht.slice; obtain ⟨g0, g1, g2⟩ := h8c.out y2; obtain ⟨q0, q1, q2, q3⟩ := hatp.out ⟨y2.w, below_then hD2.out y2⟩; change y2.w.cell? _ = _ at q0 q1 q2; change _ < y2.w.heap.size at q3))
    all_goals first
      | (have h := chk_fa (x1.h.trans (hD1.out.mono x1.h.size)) (v0 := .slice ap p.panes.length cp) (v1 := .slice ao p.opts.length co) (v2 := .slice ar p.rules.length cr) ht; generalize y1.w.heap.size + 1 = b8 at h ⊢; generalize y1.w.heap.size = bc at h ⊢; exact hcont A5 c5 bc b8 _ ⟨vs, h⟩)
      | (have h := chk_fb (x1.h.trans (hD1.out.mono x1.h.size)) (v0 := .slice ap p.panes.length cp) (v1 := .slice ao p.opts.length co) (v2 := .slice ar p.rules.length cr) ht; generalize y1.w.heap.size + 1 = bc at h ⊢; generalize y1.w.heap.size = b8 at h ⊢; exact hcont A5 c5 bc b8 _ ⟨vs, h⟩)
      | (have h := chk_fc (x1.h.trans (hD2.out.mono x1.h.size)) (v0 := .slice ap p.panes.length cp) (v1 := .slice ao p.opts.length co) (v2 := .slice ar p.rules.length cr) ht (by have := hD2s.out; omega) x1.h.size g0; exact hcont A5 c5 _ _ _ ⟨vs, h⟩)
  case cont =>
    rintro A5 c5 bc b8 w' ⟨vs, hC⟩
    go_upto_region 5 with (fail)
    have hEW := hC.later
    have hbl : Below w'.heap.size w' (w'.alloc (.cells #[.bool false] 4)) := below_alloc1 _ _
    have hsh1 : (fullTab p false).length = p.opts.length := fullTo_len p false (Nat.le_refl _)
    have hsh2 : ∀ i, (nth (fullTab p false) i).length = (nth p.opts i).length := fun i => by
      rcases Nat.lt_or_ge i p.opts.length with h | h
      · unfold fullTab; rw [nth_fullTo p false (Nat.le_refl _) h, List.length_replicate]
      · have e1 : nth (fullTab p false) i = default := by unfold nth; rw [List.getD_eq_getElem?_getD, List.getElem?_eq_none (by omega)]; rfl
        have e2 : nth p.opts i = default := by unfold nth; rw [List.getD_eq_getElem?_getD, List.getElem?_eq_none (by omega)]; rfl
        rw [e1, e2]; rfl
    have hrun := pcheck1 p _ _ _ _ _ vs _ bc b8 b3 n HP.out HC.out hval (hC.below hbl) HK.out hsh1 hsh2 hN.out (by rw [hkN, hkI]; exact (B3.below hEW).below hbl)
    have hlt := hC.lt
    have h8lt := hC.spl
    have hleft : ∀ w1, Chg bc (w'.alloc (.cells #[.bool false] 4)) w1 → w1.cell? ⟨w'.heap.size, 0, none⟩ = some (.bool false) ∧ w1.frozen? ⟨w'.heap.size, 0, none⟩ = false := fun w1 h => by
      have hk := h.block w'.heap.size (by simp) hlt
      exact ⟨(World.cell?_of_block (a := ⟨w'.heap.size, 0, none⟩) hk).trans (World.cell?_alloc_at _ _ _ 0 rfl), (World.frozen?_of_block (a := ⟨w'.heap.size, 0, none⟩) hk).trans (World.frozen?_alloc_at _ _ _ 0 rfl)⟩
    have hWw : W.heap.size ≤ w'.heap.size := Nat.le_trans hbw.size hEW.size
    cases hK : okN p n []
    · have hE : Hid (chkE p n = 73 ∧ chkC p n = 0 ∧ chkT p n = []) := Lib.hid (by
        have h1 : chkE p n = 73 := by unfold chkE; rw [if_neg (by simp [h0.out]), if_neg (by simp [hK])]
        exact ⟨h1, by unfold chkC; rw [h1, if_neg (by decide)], by unfold chkT; rw [h1, if_neg (by decide)]⟩)
      have hl := Lib.hid (leaving_panic #[.pointer (some ⟨b8, 0, none⟩), .pointer (some ⟨b3, 0, none⟩)] w' (fun w1 => (∃ y : Later W2, w1 = y.w) ∧ Chg bc (w'.alloc (.cells #[.bool false] 4)) w1) (fun w1 h => hleft w1 h.2) (hrun.mono fun e w1 h => h.elim (fun h => by rw [hK] at h; cases h.1) (fun h => ⟨h.2.1, h.2.2⟩)))
      go_wp2_with (go_at_call 119; refine hl.out.mono ?_; rintro e w9 ⟨rfl, w1, ⟨⟨y1, rfl⟩, _⟩, rfl⟩)
      go_ret3
      obtain ⟨z, hz⟩ : ∃ z : Later W, y1.w = z.w := ⟨⟨y1.w, below_then hbw y1⟩, rfl⟩
      obtain ⟨z2, hz2⟩ := z.setO hWw 0 (.bool true)
      exact ⟨_, by rw [hE.out.1, hE.out.2.1]; rfl, z2, by rw [hz, hz2], by rw [hE.out.2.2]; exact isBoolss_nil _⟩
    · have hE : Hid (chkE p n = 0 ∧ chkC p n = (agN n []).length ∧ chkT p n = markAll (fullTab p false) (agN n [])) := Lib.hid (by
        have h1 : chkE p n = 0 := by unfold chkE; rw [if_neg (by simp [h0.out]), if_pos hK]
        exact ⟨h1, by unfold chkC; rw [if_pos h1], by unfold chkT; rw [if_pos h1]⟩)
      have hl := Lib.hid (leaving_back #[.pointer (some ⟨b8, 0, none⟩), .pointer (some ⟨b3, 0, none⟩)] w' (fun w1 => ChkAt W2 w1 bc b8 (.slice ap p.panes.length cp) (.slice ao p.opts.length co) (.slice ar p.rules.length cr) (.slice A5 (fullTab p false).length c5) vs (0 + szN n) (0 + (agN n []).length) (markAll (fullTab p false) (agN n [])) ∧ Chg bc (w'.alloc (.cells #[.bool false] 4)) w1) (fun w1 h => hleft w1 h.2) (hrun.mono fun e w1 h => h.elim (fun h => h.2) (fun h => by rw [hK] at h; cases h.1)))
      go_upto_region 7 with (go_at_call 119; refine hl.out.mono ?_; rintro e w9 ⟨rfl, w1, ⟨hC1, hch1⟩, rfl⟩)
      clear hl hrun hleft
      obtain ⟨y1, rfl, ht⟩ := hC1.tab
      have hsz : w'.heap.size < y1.w.heap.size := Nat.lt_of_lt_of_le (by simp) hch1.size
      obtain ⟨z, hz⟩ := y1.setO (Nat.le_trans hEW.size (Nat.le_refl _) : W2.heap.size ≤ w'.heap.size) 0 (.bool false)
      have hg : y1.w.grownBy z.w (some w'.heap.size) := hz ▸ ⟨rfl, rfl, rfl, by simp [World.setCell], fun k _ hk => set_block (fun e => hk (by rw [e]))⟩
      have htz := ht.kept hg (fun e => by have := hC1.b1 _ e; omega) (fun i q hq e => by have := hC1.b2 i q _ hq e; omega)
      have e8 : (y1.w.setCell ⟨w'.heap.size, 0, none⟩ (.bool false)).cell? ⟨b8, 0, none⟩ = some (.pointer (some ⟨bc, 0, none⟩)) := (World.cell?_setCell_other _ _ _ _ (fun e => by cases e; omega)).trans hC1.sp
      have e4 : (y1.w.setCell ⟨w'.heap.size, 0, none⟩ (.bool false)).cell? ⟨bc, 4, none⟩ = some (.int .i64 (agN n []).length) := (World.cell?_setCell_other _ _ _ _ (fun e => by cases e)).trans (by rw [hC1.c4, Nat.zero_add])
      have e5 : (y1.w.setCell ⟨w'.heap.size, 0, none⟩ (.bool false)).cell? ⟨bc, 5, none⟩ = some (.slice A5 (fullTab p false).length c5) := (World.cell?_setCell_other _ _ _ _ (fun e => by cases e)).trans hC1.c5
      have hbl2 : bc < z.w.heap.size ∧ b8 < z.w.heap.size := by rw [← hz]; simp [World.setCell]; omega
      rw [hz] at e8 e4 e5 ⊢
      have m8 : ∀ y : Later z.w, y.w.cell? ⟨b8, 0, none⟩ = some (.pointer (some ⟨bc, 0, none⟩)) := Later.cell hbl2.2 e8
      have m4 : ∀ y : Later z.w, y.w.cell? ⟨bc, 4, none⟩ = some (.int .i64 (agN n []).length) := Later.cell hbl2.1 e4
      have m5 : ∀ y : Later z.w, y.w.cell? ⟨bc, 5, none⟩ = some (.slice A5 (fullTab p false).length c5) := Later.cell hbl2.1 e5
      have mb : ∀ y : Later z.w, bc < y.w.heap.size := Later.size hbl2.1
      have m8b : ∀ y : Later z.w, b8 < y.w.heap.size := Later.size hbl2.2
      have hTz := Lib.hid htz
      have hsh3 := markAll_shape (fullTab p false) (agN n [])
      have hopt : ∀ i, i < p.opts.length → (nth p.opts i).length ≤ 256 := fun i hi => (valid_opts hval hi).2
      have hpan : p.opts.length ≤ 64 := by have := valid_pane64 hval; have := valid_len hval; omega
      show Code.wp _ _ _ _ (Later.now z.w).w
      generalize Later.now z.w = x2
      clear ht htz hC1 hch1 hg hz
      refine wp_region_later x2 (by kernel_rfl) (by kernel_rfl) ?_
      repeat (go_big_quiet_step (fail))
      refine wpQuiet_nil ?_
      rintro _ ⟨x2, rfl⟩
      go_wp2
      go_ret3
      refine ⟨_, by rw [hE.out.1, hE.out.2.1]; rfl, ⟨x2.w, (hbw.trans (z.h.mono hbw.size)).trans (x2.h.mono (Nat.le_trans hbw.size z.h.size))⟩, rfl, ?_⟩
      rw [hE.out.2.2]
      have hfin := (hTz.out.is (by rw [hsh3.1, hsh1]; omega) (fun i hi => by rw [hsh3.2, hsh2]; have := hopt i (by rw [hsh3.1, hsh1] at hi; exact hi); omega)).below x2.h
      rw [hsh1] at hfin
      exact hfin
end Go.Proofs.Ytmpkbolabdmkkaa
