/- CONTRACT of the reference's Only. -/
import Derived.Test.YtmpkbolabdmkkaaZRoB
namespace Go.Proofs.Ytmpkbolabdmkkaa
open Go.RowKit

theorem opts_cellsX {W : World} {ad : Addr} {n c : Nat} {l : List Opt} (hn : n = l.length) (h : IsOpts W (.slice (some ad) n c) l) (y : Later W) : ∀ j u, (l.flatMap optCells)[j]? = some u → y.w.cell? (ad.add j) = some u := by
  subst hn
  obtain ⟨a, c', he, ll, h⟩ := h
  cases he
  intro j u hj
  have hlt : j < l.length * 4 := by
    have := (List.getElem?_eq_some_iff.1 hj).1
    rwa [flat_len (s := 4) optCells (fun _ => rfl) l] at this
  obtain ⟨b, o, e, hc⟩ := opts_cells h y j hlt
  cases e
  rw [show (⟨b, o, none⟩ : Addr).add j = ⟨b, o + j, none⟩ by unfold Addr.add; by_cases h0 : j = 0 <;> simp [h0], hc]
  exact hj

theorem region_cut9 {P : Program} {c : Code} {Q : Exit → Act → World → Prop} {a : Act} {w : World} (Post : Option Addr → Nat → World → Prop) (F : Option Addr → Nat → Option Addr → Nat → Option Addr → Nat → Nat → Option Addr → Nat → Act) (h1 : (∀ A2 c2 A3 c3 A6 c6 b A c w', Post A c w' → Q .normal (F A2 c2 A3 c3 A6 c6 b A c) w') → c.wp P Q a w) (h2 : ∀ A2 c2 A3 c3 A6 c6 b A c w', Post A c w' → Q .normal (F A2 c2 A3 c3 A6 c6 b A c) w') : c.wp P Q a w := h1 h2

set_option maxRecDepth 100000 in
set_option maxHeartbeats 4000000 in
theorem rOnly {W : World} (x : Later W) (v0 v1 v2 vi : Value) (p : Prob) (it : List Int) (hp : IsProb W v0 v1 v2 p) (hi : IsInts W vi it) :
    Calls Try.prog 19 #[.agg #[v0, v1, v2], vi] x.w (EndsProb W p it) := by
  go_enter Try.func19, Try.ntmps19
  go_upto_region 1 with (fail)
  obtain ⟨W1, x1, e1, hb1, s1, p0, p1, p2⟩ := enter3 x v0 v1 v2 26
  rw [show x.w.heap.size + 1 = x1.w.heap.size by rw [← e1]; simp] at *
  rw [e1]; clear e1
  have HP := Lib.hid (hp.below hb1)
  have HI := Lib.hid (hi.below hb1)
  obtain ⟨ap, cp, rfl, lp, _⟩ := hp.panes.opened
  obtain ⟨ao, co, rfl, lo, _⟩ := hp.opts.opened
  obtain ⟨ar, cr, rfl, lr, _⟩ := hp.rules.opened
  obtain ⟨ai, ci, rfl, li, _⟩ := hi.opened
  clear hp hi
  obtain ⟨b4, hB4⟩ : ∃ b4, x1.w.heap.size = b4 := ⟨_, rfl⟩
  obtain ⟨W2, hW2⟩ : ∃ W2, x1.w.alloc (.cells #[.slice none 0 0, .slice none 0 0, .slice none 0 0] 26) = W2 := ⟨_, rfl⟩
  have hb2 : Below W1.heap.size W1 W2 := hW2 ▸ x1.h.alloc x1.h.size _
  have n4 : b4 < W2.heap.size := by rw [← hW2, ← hB4]; simp
  have hW14 : W1.heap.size ≤ b4 := hB4 ▸ x1.h.size
  have c40 : ∀ y : Later W2, y.w.cell? ⟨b4, 0, none⟩ = some (.slice none 0 0) := Later.cell n4 (by rw [← hW2, ← hB4]; exact World.cell?_alloc_at _ _ _ 0 rfl)
  have c41 : ∀ y : Later W2, y.w.cell? ⟨b4, 1, none⟩ = some (.slice none 0 0) := Later.cell n4 (by rw [← hW2, ← hB4]; exact World.cell?_alloc_at _ _ _ 1 rfl)
  have c42 : ∀ y : Later W2, y.w.cell? ⟨b4, 2, none⟩ = some (.slice none 0 0) := Later.cell n4 (by rw [← hW2, ← hB4]; exact World.cell?_alloc_at _ _ _ 2 rfl)
  have f40 : ∀ y : Later W2, y.w.frozen? ⟨b4, 0, none⟩ = false := Later.frozen n4 (by rw [← hW2, ← hB4]; exact World.frozen?_alloc_at _ _ _ 0 rfl)
  have f41 : ∀ y : Later W2, y.w.frozen? ⟨b4, 1, none⟩ = false := Later.frozen n4 (by rw [← hW2, ← hB4]; exact World.frozen?_alloc_at _ _ _ 1 rfl)
  have f42 : ∀ y : Later W2, y.w.frozen? ⟨b4, 2, none⟩ = false := Later.frozen n4 (by rw [← hW2, ← hB4]; exact World.frozen?_alloc_at _ _ _ 2 rfl)
  have s4 : ∀ y : Later W2, b4 < y.w.heap.size := Later.size n4
  rw [hW2, hB4]
  have hne : x.w.heap.size ≠ b4 := by have := s1 x1; omega
  clear hW2 hB4 x1
  replace HP := Lib.hid (HP.out.below hb2)
  replace HI := Lib.hid (HI.out.below hb2)
  replace p0 := Later.cells hb2 p0
  replace p1 := Later.cells hb2 p1
  replace p2 := Later.cells hb2 p2
  replace s1 := Later.sizes hb2 s1
  show Code.wp _ _ _ _ (Later.now W2).w
  generalize Later.now W2 = x1
  have hfin : Hid (∀ (y : Later W2) (u0 u1 u2 : Value) (n : Int), isSl u0 ∧ isSl u1 ∧ isSl u2 → onlyE p it = n → (onlyE p it = 0 → IsProb (((y.w.setCell ⟨b4, 0, none⟩ u0).setCell ⟨b4, 1, none⟩ u1).setCell ⟨b4, 2, none⟩ u2) u0 u1 u2 (onlyP p it)) →
      EndsProb W p it (.returned (.tuple #[.agg #[u0, u1, u2], .int .i64 n])) (((y.w.setCell ⟨b4, 0, none⟩ u0).setCell ⟨b4, 1, none⟩ u1).setCell ⟨b4, 2, none⟩ u2)) := Lib.hid (fun y u0 u1 u2 n hsl hn h => by
    obtain ⟨z, hz⟩ : ∃ z : Later W, y.w = z.w := ⟨⟨y.w, below_then (hb1.trans (hb2.mono hb1.size)) y⟩, rfl⟩
    have hle : W.heap.size ≤ b4 := Nat.le_trans hb1.size hW14
    obtain ⟨z1, hz1⟩ := z.setO hle 0 u0
    obtain ⟨z2, hz2⟩ := z1.setO hle 1 u1
    obtain ⟨z3, hz3⟩ := z2.setO hle 2 u2
    rw [hz, hz1, hz2, hz3] at h ⊢
    exact ⟨u0, u1, u2, by rw [hn], hsl, z3, rfl, h⟩)
  have hV := Lib.hid (fun y : Later W2 => rValid y _ _ _ p HP.out)
  cases hv : validP p
  · rw [hv] at hV
    go_wp2_with (go_at_call 27; refine (hV.out x1).mono ?_; rintro e w' ⟨rfl, x1, rfl⟩)
    obtain ⟨t0, t1, t2⟩ := three_set (u0 := .slice none 0 0) (u1 := .slice none 0 0) (u2 := .slice none 0 0) (c40 x1) (c41 x1) (c42 x1)
    refine bodyPost_ret (results_ct rfl rfl (loadVar_prob t0 t1 t2)) rfl ?_
    exact hfin.out x1 _ _ _ _ ⟨⟨_, _, _, rfl⟩, ⟨_, _, _, rfl⟩, ⟨_, _, _, rfl⟩⟩ (onlyE_70 hv) (fun h => by simp [onlyE_70 hv] at h)
  rw [hv] at hV
  have hR := Lib.hid (fun y : Later W2 => rrising y _ it HI.out)
  cases hri : risingB it
  · rw [hri] at hR
    have hbad : Hid (onlyE p it = 1) := Lib.hid (onlyE_1 hv hri)
    go_wp2_with (first | (go_at_call 27; refine (hV.out x1).mono ?_; rintro e w' ⟨rfl, x1, rfl⟩) | (go_at_call 76; refine (hR.out x1).mono ?_; rintro e w' ⟨rfl, x1, rfl⟩))
    obtain ⟨t0, t1, t2⟩ := three_set (u0 := .slice none 0 0) (u1 := .slice none 0 0) (u2 := .slice none 0 0) (c40 x1) (c41 x1) (c42 x1)
    refine bodyPost_ret (results_ct rfl rfl (loadVar_prob t0 t1 t2)) rfl ?_
    exact hfin.out x1 _ _ _ _ ⟨⟨_, _, _, rfl⟩, ⟨_, _, _, rfl⟩, ⟨_, _, _, rfl⟩⟩ hbad.out (fun h => by simp [hbad.out] at h)
  rw [hri] at hR
  have hE0 : Hid (onlyE p it = 0) := Lib.hid (onlyE_0 hv hri)
  obtain ⟨_, _, hqq, _, hits⟩ := HI.out.opened
  cases hqq
  clear hits
  go_upto_region 5 with (first | (go_at_call 27; refine (hV.out x1).mono ?_; rintro e w' ⟨rfl, x1, rfl⟩) | (go_at_call 76; refine (hR.out x1).mono ?_; rintro e w' ⟨rfl, x1, rfl⟩))
  have HPx := HP.out.panes.below x1.h
  obtain ⟨_, _, hqq, _, hq⟩ := HPx.opened
  cases hqq
  obtain ⟨ze, hze, howne⟩ := owns_empty (Later.now x1.w) 3 1
  change x1.w.alloc _ = ze.w at hze
  have P0z : ze.w.cell? ⟨x.w.heap.size, 0, none⟩ = some (.slice ap p.panes.length cp) := p0 (x1.up ze)
  have S1z : x.w.heap.size < ze.w.heap.size := s1 (x1.up ze)
  have hicells := ints_cells (fun i hi => hq.out i hi) ze
  go_upto_region 6 with (at_builtin; refine wpList_appN ze 22 3 _ 1 8 Try.info3 rfl (by decide) Try.underlying22 rfl _ _ rfl _ _ _ (by rfl) howne _ p.panes.length cp (p.panes.map (Value.int .i64)) (by rfl) (by simp) hicells (ints_one _) (by omega) (by omega) ?_; intro v3 y hown hgx; clear hgx; obtain ⟨A0, c0, rfl⟩ := owns_slice hown; simp only [Nat.zero_add, List.nil_append] at hown; rw [Nat.zero_add])
  have hbb : Below W2.heap.size W2 y.w := below_then x1.h y
  obtain ⟨Wb, hWb⟩ : ∃ Wb, y.w = Wb := ⟨_, rfl⟩
  have hI0 : IsInts (wout (fun k => decide (k < x1.w.heap.size)) Wb) (.slice A0 p.panes.length c0) p.panes := hWb ▸ isInts_of_owns (owns_fresh hown) lp
  obtain ⟨n0, hn0⟩ : ∃ n0, x1.w.heap.size = n0 := ⟨_, rfl⟩
  have hn04 : b4 < n0 := hn0 ▸ s4 x1
  rw [hn0] at hI0 ⊢
  clear hn0
  rw [hWb] at hbb ⊢
  clear hWb hown y P0z S1z hicells hze howne ze hq HPx x1 hR hV
  replace HP := Lib.hid (HP.out.below hbb)
  replace HI := Lib.hid (HI.out.below hbb)
  replace p0 := Later.cells hbb p0
  replace p1 := Later.cells hbb p1
  replace p2 := Later.cells hbb p2
  replace s1 := Later.sizes hbb s1
  replace c40 := Later.cells hbb c40
  replace c41 := Later.cells hbb c41
  replace c42 := Later.cells hbb c42
  replace f40 := fun y : Later Wb => f40 (y.re hbb)
  replace f41 := fun y : Later Wb => f41 (y.re hbb)
  replace f42 := fun y : Later Wb => f42 (y.re hbb)
  replace s4 := Later.sizes hbb s4
  replace hI0 := Lib.hid hI0
  replace hfin := Lib.hid (fun y : Later Wb => hfin.out (y.re hbb))
  obtain ⟨b8, hB8⟩ : ∃ b8, Wb.heap.size = b8 := ⟨_, rfl⟩
  have hbx : BoxAt (Wb.alloc (.cells #[.slice A0 p.panes.length c0, .slice none 0 0, .slice none 0 0] 26)) b8 (.slice A0 p.panes.length c0) (.slice none 0 0) (.slice none 0 0) := by
    rw [← hB8]
    exact ⟨by simp, World.cell?_alloc_at _ _ _ 0 rfl, World.cell?_alloc_at _ _ _ 1 rfl, World.cell?_alloc_at _ _ _ 2 rfl, World.frozen?_alloc_at _ _ _ 0 rfl, World.frozen?_alloc_at _ _ _ 1 rfl, World.frozen?_alloc_at _ _ _ 2 rfl⟩
  obtain ⟨z, hz⟩ := (Later.now Wb).alloc (.cells #[.slice A0 p.panes.length c0, .slice none 0 0, .slice none 0 0] 26)
  change Wb.alloc _ = z.w at hz
  rw [hz] at hbx ⊢
  rw [hB8]
  clear hz
  have h4 : b4 ≠ b8 := by have := s4 (Later.now Wb); change b4 < Wb.heap.size at this; omega
  obtain ⟨_, _, hqq, _, hopts⟩ := HP.out.opts.opened
  cases hqq
  replace hbx := Lib.hid hbx
  go_wp2
  go_loopw [7] (fun iv wr => ∃ k : Nat, k ≤ p.opts.length ∧ iv = .int .i64 k ∧ ∃ y : Later Wb, wr = y.w ∧ ∃ v1, BoxAt y.w b8 (.slice A0 p.panes.length c0) v1 (.slice none 0 0) ∧ OptRow y.w b8 b8 v1 (p.opts.take k)) (fun iv _ => p.opts.length - (intOf iv).toNat)
  case atStart => exact ⟨0, Nat.zero_le _, rfl, z, rfl, _, hbx.out, OptRow.nil _ _ _⟩
  case round =>
    clear hbx z
    obtain ⟨k, hk, rfl, ⟨z, rfl, v1, hbx, hrow⟩⟩ := hrel
    by_cases hlt : k < p.opts.length
    · obtain ⟨bo, oo, rfl, hbo, u0, d0, hO⟩ := hopts.out k hlt
      have hol := valid_opts hv hlt
      obtain ⟨au, cu, rfl, lu, hOe⟩ := hO.opened
      obtain ⟨ba, oa, rfl, _⟩ := hOe.out 0 (by omega)
      clear hOe
      have e1 := hbx.c1
      have n8 := hbx.lt
      have hbx' := Lib.hid hbx
      have hrow' := Lib.hid hrow
      clear hbx hrow
      go_upto_region 9 with (fail)
      refine region_cut5 (fun _ _ _ A c w' => ∃ y : Later Wb, w' = y.w ∧ BoxAt y.w b8 (.slice A0 p.panes.length c0) (.slice A (k + 1) c) (.slice none 0 0) ∧ OptRow y.w b8 b8 (.slice A (k + 1) c) (p.opts.take (k + 1))) ?F ?paths ?cont
      case paths =>
        intro hcont
        have hbd : Below z.w.heap.size z.w z.w.drew := Below.drew (Below.refl _ _)
        obtain ⟨ze, hze, howne⟩ := owns_empty (Later.now z.w.drew) 57 4
        change z.w.drew.alloc _ = ze.w at hze
        change ze.w.ownsRow z.w.drew.heap.size 57 4 _ _ _ at howne
        have hcX := Lib.hid (opts_cellsX rfl (hO.below (Below.drew z.h)) ze)
        replace howne := Lib.hid howne
        have hfl := Lib.hid (flat_len (s := 4) optCells (fun _ => rfl) (nth p.opts k))
        have hon := Lib.hid (opts_one (nth p.opts k))
        have hbxd := Lib.hid (fun y : Later z.w.drew => hbx'.out.below (below_then hbd y))
        have e1e := (hbxd.out ze).c1
        have n8e := (hbxd.out ze).lt
        have hrowd := Lib.hid (fun (y : Later z.w.drew) (u : Value) => (hrow'.out.below (below_then hbd y)).below (below_alloc1 y.w (.cells #[u] 39)))
        have hne1 := Lib.hid hrow'.out.ne
        have hlt1 := Lib.hid hrow'.out.lt
        have htk : Hid (p.opts.take (k + 1) = p.opts.take k ++ [nth p.opts k]) := Lib.hid (by rw [List.take_succ_eq_append_getElem hlt, nth_eq _ k hlt])
        have hlen : Hid ((p.opts.take k).length = k) := Lib.hid (by simp; omega)
        have hzd : Hid (∀ (y : Later z.w.drew) (u : Value), ∃ zA : Later Wb, y.w.alloc (.cells #[u] 39) = zA.w) := Lib.hid (fun y u => ⟨⟨_, (z.h.trans ((below_then hbd y).mono z.h.size)).alloc (Nat.le_trans z.h.size (below_then hbd y).size) _⟩, rfl⟩)
        have hKy : Hid (∀ y : Later z.w.drew, ∃ q : Later Wb, y.w = q.w) := Lib.hid (fun y => ⟨⟨_, z.h.trans ((below_then hbd y).mono z.h.size)⟩, rfl⟩)
        have keep : Hid (∀ w' : World, (∃ q : Later Wb, w' = q.w) → x.w.heap.size < w'.heap.size ∧ w'.cell? ⟨x.w.heap.size, 1, none⟩ = some (.slice (some ⟨bo, oo, none⟩) p.opts.length co) ∧ bo < w'.heap.size ∧ w'.cell? ⟨bo, oo + k, none⟩ = some (.slice (some ⟨ba, oa, none⟩) (nth p.opts k).length cu)) := Lib.hid (by rintro _ ⟨q, rfl⟩; exact ⟨s1 q, p1 q, hbo q, d0 q⟩)
        have s1' := s1 z
        have p1' := p1 z
        have hbo' := hbo z
        have d0' := d0 z
        obtain ⟨zs1, zp1, zbo, zd0⟩ := keep.out _ (hKy.out ze)
        go_region_law (first | (obtain ⟨us, ho1, ho2, ho3⟩ := hus.out; refine step_appN rfl (.tmp 30) (.tmp 38) 23 rfl 39 _ 1 24 Try.info39 rfl (by decide) Try.underlying23 v1 k us b8 ho1 (by have := n85; simp; omega) ⟨y.w.heap.size, 0, none⟩ 1 1 [.slice A5 (nth p.opts k).length c5] rfl (by simp [Act.eval]) (by simp [Act.eval]) (cell_one_new _ _ _) (by simp [Value.oneCell']) (by omega) (by omega) ?_; intro v' w' ho hg h5; obtain ⟨A7, c7, rfl⟩ := owns_slice ho; obtain ⟨zA, hzA⟩ := hzd.out y (.slice A5 (nth p.opts k).length c5); have hK7 := zA.grown (hzA ▸ hg) (fun g hg' => by have := hne1.out g hg'; omega); have hst := opt_step hB8 zA hzA (hbx6.out.below (below_alloc1 _ _)) (l := p.opts.take k) (by rw [hlen.out]; exact ho2) (by rw [hlen.out]; exact ho3) hne1.out (n := z.w.drew.heap.size) n8 (fun g hg => (hlt1.out g hg).2) _ (nth p.opts k) (hI6.out.cov (cov_below (below_alloc1 _ _))) (by rw [hlen.out]; exact ho) hg h5; have e16 := hst.1.c1; have f16 := hst.1.f1; have n86 := hst.1.lt; have hst2 := Lib.hid hst.2; have hK8 : ∃ q : Later Wb, w'.setCell ⟨b8, 1, none⟩ (.slice A7 (k + 1) c7) = q.w := (let ⟨q, h, _⟩ := hst2.out; ⟨q, h⟩); clear hst hzA zA ho hg h5 ho1 ho2 ho3 hI6 hus) | (refine step_appN rfl (.tmp 31) (.tmp 36) 39 rfl 57 _ 4 32 Try.info57 rfl (by decide) Try.underlying39 _ 0 [] z.w.drew.heap.size howne.out ze.h.size ⟨ba, oa, none⟩ (nth p.opts k).length cu ((nth p.opts k).flatMap optCells) hfl.out (by simp [Act.eval, Later.now]) (by simp [Act.eval]) hcX.out hon.out (by omega) (by omega) ?_; intro v' w' ho hg h5; obtain ⟨A5, c5, rfl⟩ := owns_slice ho; obtain ⟨y, rfl⟩ := ze.grown hg (fun g hg' => (howne.out.lt g hg').1); simp only [Nat.zero_add, List.nil_append] at ho ⊢; have hI6 := Lib.hid (isOpts_of_owns (owns_fresh ho) lu); have hbx5 := hbxd.out y; have e15 := hbx5.c1; have n85 := hbx5.lt; have hbx6 := Lib.hid hbx5; clear hbx5 ho hg h5; have hus := (hrowd.out y (.slice A5 (nth p.opts k).length c5)).row; rw [hlen.out] at hus; replace hus := Lib.hid hus))
        all_goals (obtain ⟨yF, hyF, hb, hr⟩ := hst2.out; rw [hyF]; generalize y.w.heap.size = bb; exact hcont A5 c5 bb A7 c7 _ ⟨yF, rfl, hb, by rw [htk.out]; exact hr⟩)
      case cont =>
        rintro A5 c5 bb A7 c7 w' ⟨y, rfl, hb, hr⟩
        replace hb := Lib.hid hb
        replace hr := Lib.hid hr
        go_wp2
        go_roundw
        case rel => exact ⟨k + 1, by omega, by go_num, y, rfl, _, hb.out, hr.out⟩
        case measure => simp [intOf]; omega
    · obtain rfl : k = p.opts.length := by omega
      clear hopts
      rw [List.take_length] at hrow
      have hOS := hrow.is lo
      obtain ⟨us, hus, hx1, hx2⟩ := hrow.row
      obtain ⟨A1, c1, rfl⟩ := owns_slice hus
      clear hx1 hx2 hus us hrow
      obtain ⟨_, _, hqq, _, hrules⟩ := HP.out.rules.opened
      cases hqq
      have hbx' := Lib.hid hbx
      replace hOS := Lib.hid hOS
      clear hbx
      go_wp2
      go_loopw [8] (fun iv wr => ∃ k : Nat, k ≤ p.rules.length ∧ iv = .int .i64 k ∧ ∃ y : Later Wb, wr = y.w ∧ ∃ v2, BoxAt y.w b8 (.slice A0 p.panes.length c0) (.slice A1 p.opts.length c1) v2 ∧ IsOptss (wout (hidB b8 v2.ownBlock) y.w) (.slice A1 p.opts.length c1) p.opts ∧ RulRow y.w b8 b8 v2 (onlyTo p it k)) (fun iv _ => p.rules.length - (intOf iv).toNat)
      case atStart => exact ⟨0, Nat.zero_le _, rfl, z, rfl, _, hbx'.out, hOS.out, RulRow.nil _ _ _⟩
      case round =>
        clear hbx' hOS z
        obtain ⟨k, hk, rfl, ⟨z, rfl, v2, hbx, hOS, hrow⟩⟩ := hrel
        by_cases hlt : k < p.rules.length
        · obtain ⟨bk, ok, rfl, hbk, u2, u3, u6, r0, r1, r2, r3, r4, r5, r6, hR⟩ := hrules.out k hlt
          obtain ⟨aq, cq, rfl, lq, _⟩ := hR.panes.opened
          obtain ⟨ah, ch, rfl, lh, _⟩ := hR.hits.opened
          obtain ⟨ak, ck, rfl, lk, _⟩ := hR.ok.opened
          have hR' := Lib.hid hR
          obtain ⟨hsm1, hsm2⟩ := rule_small hv hlt
          clear hR
          have hHas := Lib.hid (rhas (Later.now z.w) _ it (nth p.rules k).item (HI.out.below z.h))
          replace hbx := Lib.hid hbx
          replace hOS := Lib.hid hOS
          replace hrow := Lib.hid hrow
          cases hK : hasI it (nth p.rules k).item
          · rw [hK] at hHas
            have hno := Lib.hid (onlyTo_no (p := p) hK)
            go_wp2_with (go_at_call 77; refine hHas.out.mono ?_; rintro e w' ⟨rfl, y, rfl⟩)
            go_roundw
            case rel => exact ⟨k + 1, by omega, by go_num, z.up y, rfl, v2, hbx.out.below y.h, hOS.out.cov (cov_below y.h), by rw [hno.out]; exact hrow.out.below y.h⟩
            case measure => simp [intOf]; omega
          · rw [hK] at hHas
            have hyes := Lib.hid (onlyTo_yes (p := p) hK)
            go_upto_region 14 with (go_at_call 77; refine hHas.out.mono ?_; rintro e w' ⟨rfl, y, rfl⟩)
            clear hHas hK
            have hle := onlyTo_len p it k
            have hR256 := valid_rules hv
            refine region_cut9 (fun A c w' => ∃ q : Later Wb, w' = q.w ∧ ∃ n, n = (onlyTo p it (k + 1)).length ∧ BoxAt q.w b8 (.slice A0 p.panes.length c0) (.slice A1 p.opts.length c1) (.slice A n c) ∧ IsOptss (wout (hidB b8 (Value.slice A n c).ownBlock) q.w) (.slice A1 p.opts.length c1) p.opts ∧ RulRow q.w b8 b8 (.slice A n c) (onlyTo p it (k + 1))) ?F2 ?paths2 ?cont2
            case paths2 =>
              intro hcont
              have hbd : Below z.w.heap.size z.w y.w.drew := Below.drew y.h
              have hcp := Lib.hid (rCopyRule (Later.now y.w.drew) _ _ _ (nth p.rules k) (hR'.out.below (z.h.trans (hbd.mono z.h.size))) hsm1 hsm2)
              have hbxd := Lib.hid (fun q : Later y.w.drew => hbx.out.below (below_then hbd q))
              have hbxA := Lib.hid (fun (q : Later y.w.drew) (cs : Array Value) => (hbxd.out q).below (below_alloc1 q.w (.cells cs 87)))
              have hrowA := Lib.hid (fun (q : Later y.w.drew) (cs : Array Value) => (hrow.out.below (below_then hbd q)).below (below_alloc1 q.w (.cells cs 87)))
              have hoA := Lib.hid (fun (q : Later y.w.drew) (cs : Array Value) => (hOS.out.cov (cov_below (below_then hbd q))).cov (cov_below (below_alloc1 q.w (.cells cs 87))))
              have hzd : Hid (∀ (q : Later y.w.drew) (cs : Array Value), ∃ zA : Later Wb, q.w.alloc (.cells cs 87) = zA.w) := Lib.hid (fun q cs => ⟨⟨_, (z.h.trans ((below_then hbd q).mono z.h.size)).alloc (Nat.le_trans z.h.size (below_then hbd q).size) _⟩, rfl⟩)
              have hKy : Hid (∀ q : Later y.w.drew, ∃ r : Later Wb, q.w = r.w) := Lib.hid (fun q => ⟨⟨_, z.h.trans ((below_then hbd q).mono z.h.size)⟩, rfl⟩)
              have hKz : Hid (∃ r : Later Wb, y.w = r.w) := Lib.hid ⟨z.up y, rfl⟩
              have hlt2 := Lib.hid (fun g hg => (let ⟨us, h1, _⟩ := hrow.out.row; Nat.lt_of_lt_of_le (h1.lt g hg).2 hbd.size : g < y.w.drew.heap.size))
              have hbz : Hid (b8 < y.w.drew.heap.size) := Lib.hid (Nat.lt_of_lt_of_le hbx.out.lt hbd.size)
              have hbxy := hbx.out.below y.h
              have e2 := hbxy.c2
              have n8 := hbxy.lt
              clear hbxy hbd
              have keep : Hid (∀ w' : World, (∃ q : Later Wb, w' = q.w) → x.w.heap.size < w'.heap.size ∧ w'.cell? ⟨x.w.heap.size, 2, none⟩ = some (.slice (some ⟨bk, ok, none⟩) p.rules.length cr) ∧ bk < w'.heap.size ∧ w'.cell? ⟨bk, ok + k * 7, none⟩ = some (.int .i64 (nth p.rules k).item) ∧ w'.cell? ⟨bk, ok + k * 7 + 1, none⟩ = some (.int .i64 (nth p.rules k).kind) ∧ w'.cell? ⟨bk, ok + k * 7 + 2, none⟩ = some (.slice aq (nth p.rules k).panes.length cq) ∧ w'.cell? ⟨bk, ok + k * 7 + 3, none⟩ = some (.slice ah (nth p.rules k).hits.length ch) ∧ w'.cell? ⟨bk, ok + k * 7 + 4, none⟩ = some (.int .i64 (nth p.rules k).lo) ∧ w'.cell? ⟨bk, ok + k * 7 + 5, none⟩ = some (.int .i64 (nth p.rules k).hi) ∧ w'.cell? ⟨bk, ok + k * 7 + 6, none⟩ = some (.slice ak (nth p.rules k).ok.length ck)) := Lib.hid (by rintro _ ⟨q, rfl⟩; exact ⟨s1 q, p2 q, hbk q, r0 q, r1 q, r2 q, r3 q, r4 q, r5 q, r6 q⟩)
              obtain ⟨ys1, yp2, ybk, yr0, yr1, yr2, yr3, yr4, yr5, yr6⟩ := keep.out _ hKz.out
              have hlen1 : Hid ((onlyTo p it (k + 1)).length = (onlyTo p it k).length + 1) := Lib.hid (by rw [hyes.out]; simp)
              go_region_law (first | (have hgo2 := hgo; clear hgo2; obtain ⟨us, ho1, ho2, ho3⟩ := (hrowA.out q #[.int .i64 (nth p.rules k).item, .int .i64 (nth p.rules k).kind, .slice A2 (nth p.rules k).panes.length c2, .slice A3 (nth p.rules k).hits.length c3, .int .i64 (nth p.rules k).lo, .int .i64 (nth p.rules k).hi, .slice A6 (nth p.rules k).ok.length c6]).row; refine step_appN rfl (.tmp 57) (.tmp 64) 24 rfl 87 _ 7 104 Try.info87 rfl (by decide) Try.underlying24 v2 (onlyTo p it k).length (us.flatMap rlCells) b8 ho1 (Nat.le_of_lt (hbxA.out q #[.int .i64 (nth p.rules k).item, .int .i64 (nth p.rules k).kind, .slice A2 (nth p.rules k).panes.length c2, .slice A3 (nth p.rules k).hits.length c3, .int .i64 (nth p.rules k).lo, .int .i64 (nth p.rules k).hi, .slice A6 (nth p.rules k).ok.length c6]).lt) ⟨q.w.heap.size, 0, none⟩ 1 1 (rlCells (nth p.rules k, .slice A2 (nth p.rules k).panes.length c2, .slice A3 (nth p.rules k).hits.length c3, .slice A6 (nth p.rules k).ok.length c6)) rfl (by simp [Act.eval]) (by simp [Act.eval]) (cells_new _ _ _) (by simp [rlCells, Value.oneCell']) (by omega) (by omega) ?_; intro v' w' ho hg h5; obtain ⟨A10, c10, rfl⟩ := owns_slice ho; obtain ⟨zA, hzA⟩ := hzd.out q #[.int .i64 (nth p.rules k).item, .int .i64 (nth p.rules k).kind, .slice A2 (nth p.rules k).panes.length c2, .slice A3 (nth p.rules k).hits.length c3, .int .i64 (nth p.rules k).lo, .int .i64 (nth p.rules k).hi, .slice A6 (nth p.rules k).ok.length c6]; have hK7 := zA.grown (hzA ▸ hg) (fun g hg' => by have := (hrowA.out q #[.int .i64 (nth p.rules k).item, .int .i64 (nth p.rules k).kind, .slice A2 (nth p.rules k).panes.length c2, .slice A3 (nth p.rules k).hits.length c3, .int .i64 (nth p.rules k).lo, .int .i64 (nth p.rules k).hi, .slice A6 (nth p.rules k).ok.length c6]).ne g hg'; omega); have hst := rul_step hB8 zA hzA (hbxA.out q #[.int .i64 (nth p.rules k).item, .int .i64 (nth p.rules k).kind, .slice A2 (nth p.rules k).panes.length c2, .slice A3 (nth p.rules k).hits.length c3, .int .i64 (nth p.rules k).lo, .int .i64 (nth p.rules k).hi, .slice A6 (nth p.rules k).ok.length c6]) (hoA.out q #[.int .i64 (nth p.rules k).item, .int .i64 (nth p.rules k).kind, .slice A2 (nth p.rules k).panes.length c2, .slice A3 (nth p.rules k).hits.length c3, .int .i64 (nth p.rules k).lo, .int .i64 (nth p.rules k).hi, .slice A6 (nth p.rules k).ok.length c6]) ho2 ho3 (hrowA.out q #[.int .i64 (nth p.rules k).item, .int .i64 (nth p.rules k).kind, .slice A2 (nth p.rules k).panes.length c2, .slice A3 (nth p.rules k).hits.length c3, .int .i64 (nth p.rules k).lo, .int .i64 (nth p.rules k).hi, .slice A6 (nth p.rules k).ok.length c6]).ne (n := y.w.drew.heap.size) hbz.out hlt2.out _ _ _ (nth p.rules k) (hI6.out.cov (cov_below (below_alloc1 _ _))) ho hg h5; have e16 := hst.1.c2; have f16 := hst.1.f2; have n86 := hst.1.lt; have hst2 := Lib.hid hst.2; have hK8 : ∃ r : Later Wb, w'.setCell ⟨b8, 2, none⟩ (.slice A10 ((onlyTo p it k).length + 1) c10) = r.w := (let ⟨r, h, _⟩ := hst2.out; ⟨r, h⟩); clear hst hzA zA ho hg h5 ho1 ho2 ho3 hI6) | (go_simp; go_at_call 78; refine hcp.out.mono ?_; rintro e w' ⟨A2, c2, A3, c3, A6, c6, rfl, q, rfl, hI⟩; have hI6 := Lib.hid hI; clear hI; have hbq := hbxd.out q; have e12 := hbq.c2; have n18 := hbq.lt; clear hbq; have hgo : True := trivial))
              all_goals (obtain ⟨yF, hyF, hb, ho, hr⟩ := hst2.out; rw [hyF]; generalize q.w.heap.size = bb; exact hcont A2 c2 A3 c3 A6 c6 bb A10 c10 _ ⟨yF, rfl, _, hlen1.out.symm, hb, ho, by rw [hyes.out]; exact hr⟩)
            case cont2 =>
              rintro A2 c2 A3 c3 A6 c6 bb A c w' ⟨q, rfl, n, rfl, hb, ho, hr⟩
              replace hb := Lib.hid hb
              replace ho := Lib.hid ho
              replace hr := Lib.hid hr
              go_wp2
              go_roundw
              case rel => exact ⟨k + 1, by omega, by go_num, q, rfl, _, hb.out, ho.out, hr.out⟩
              case measure => simp [intOf]; omega
        · obtain rfl : k = p.rules.length := by omega
          clear hrules
          have hRS : IsRules (wout (hidB b8 none) z.w) v2 (onlyTo p it p.rules.length) := hrow.is (by have := onlyTo_len p it p.rules.length; omega)
          have hOS2 : IsOptss (wout (hidB b8 none) z.w) (.slice A1 p.opts.length c1) p.opts := hOS.cov (cov_out (Nat.le_refl _) fun q _ hq => ⟨hidB_no.2 ⟨(hidB_no.1 hq).1, by simp⟩, rfl⟩)
          have hIS := hI0.out.cov (cov_below z.h)
          obtain ⟨us0, hus0, hx1, hx2⟩ := hrow.row
          obtain ⟨A2, c2, rfl⟩ := owns_slice hus0
          clear hx1 hx2 hus0 us0 hrow hOS
          have d0 := hbx.c0
          have d1 := hbx.c1
          have d2 := hbx.c2
          have n8 := hbx.lt
          have hn48 : b4 ≤ b8 := by have := s4 (Later.now Wb); change b4 < Wb.heap.size at this; omega
          replace hRS := Lib.hid hRS
          replace hOS2 := Lib.hid hOS2
          replace hIS := Lib.hid hIS
          have q0 := c40 z
          have q1 := c41 z
          have q2 := c42 z
          have r0 : z.w.frozen? ⟨b4, 0, none⟩ = false := f40 z
          have r1 : z.w.frozen? ⟨b4, 1, none⟩ = false := f41 z
          have r2 : z.w.frozen? ⟨b4, 2, none⟩ = false := f42 z
          have m4 := s4 z
          clear hbx
          go_wp2
          obtain ⟨t0, t1, t2⟩ := three_set (u0 := .slice A0 p.panes.length c0) (u1 := .slice A1 p.opts.length c1) (u2 := .slice A2 (onlyTo p it p.rules.length).length c2) q0 q1 q2
          refine bodyPost_ret (results_ct rfl rfl (loadVar_prob t0 t1 t2)) rfl ?_
          refine hfin.out z _ _ _ _ ⟨⟨_, _, _, rfl⟩, ⟨_, _, _, rfl⟩, ⟨_, _, _, rfl⟩⟩ hE0.out (fun _ => ⟨?_, ?_, ?_⟩)
          · exact (((hIS.out.cov (cov_set (by simpa using hn04))).cov (cov_set (by simpa using hn04))).cov (cov_set (by simpa using hn04))).cov (cov_all _ _)
          · exact (((hOS2.out.cov (cov_set (by simp [hidB, hn48]))).cov (cov_set (by simp [hidB, hn48]))).cov (cov_set (by simp [hidB, hn48]))).cov (cov_all _ _)
          · exact (((hRS.out.cov (cov_set (by simp [hidB, hn48]))).cov (cov_set (by simp [hidB, hn48]))).cov (cov_set (by simp [hidB, hn48]))).cov (cov_all _ _)
end Go.Proofs.Ytmpkbolabdmkkaa
