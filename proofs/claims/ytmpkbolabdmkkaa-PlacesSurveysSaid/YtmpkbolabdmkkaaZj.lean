/- CONTRACTS of places' asked, has; of the iterator over fillings. -/
import Derived.Test.YtmpkbolabdmkkaaZh
import Derived.Test.YtmpkbolabdmkkaaZi
import Derived.Test.YtmpkbolabdmkkaaZc
import Derived.Test.YtmpkbolabdmkkaaZf
namespace Go.Proofs.Ytmpkbolabdmkkaa
open Go.RowKit

theorem lspace_or {p : Prob} {lim : Int} (h0 : 1 ≤ lim) (h : ∀ i, i < p.opts.length → 1 ≤ dim p i) : ∀ k, k ≤ p.opts.length → lspaceTo lim p.opts k = prodTo p k ∨ (lim < lspaceTo lim p.opts k ∧ lim < (prodTo p k : Int))
  | 0, _ => .inl rfl
  | k + 1, hk => by
    have hd := h k (by omega)
    have e : (nth p.opts k).length = dim p k := rfl
    have hge : prodTo p k ≤ prodTo p (k + 1) := by rw [prodTo_succ]; exact Nat.le_mul_of_pos_right _ hd
    unfold lspaceTo
    rcases lspace_or h0 h k (by omega) with h1 | ⟨h1, h2⟩
    · split
      · left; rw [h1, e, prodTo_succ, Int.natCast_mul]
      · right; omega
    · rw [if_neg (by omega)]; right; omega
theorem lspace_gt {p : Prob} (h : validP p = true) : 65536 < lspaceTo 65536 p.opts p.opts.length ↔ 65536 < total p := by
  rcases lspace_or (lim := 65536) (by decide) (fun _ hi => (valid_dim h hi).1) _ (Nat.le_refl p.opts.length) with h1 | ⟨h1, h2⟩
  · rw [h1]; unfold total; omega
  · unfold total; omega

set_option maxRecDepth 100000 in
set_option maxHeartbeats 1000000 in
theorem pasked {W : World} (x : Later W) (v0 v1 v2 : Value) (p : Prob) (b : Bool) (hp : IsProb W v0 v1 v2 p) :
    Calls Try.prog 65 #[.agg #[v0, v1, v2], .bool b] x.w (Ends W (.int .i64 (askE p b))) := by
  go_enter Try.func65, Try.ntmps65
  go_upto_region 1 with (fail)
  obtain ⟨W1, x1, e1, hb1, s1, p0, p1, p2⟩ := enter3 x v0 v1 v2 26
  rw [e1]; clear e1
  have HP := Lib.hid (hp.below hb1)
  obtain ⟨ap, cp, rfl, lp, _⟩ := hp.panes.opened
  obtain ⟨ao, co, rfl, lo, _⟩ := hp.opts.opened
  obtain ⟨ar, cr, rfl, lr, _⟩ := hp.rules.opened
  clear hp
  cases hv : validP p
  · have hres : Hid (askE p b = 70) := Lib.hid (by simp [askE, hv])
    go_wp2_with (go_at_call 36; refine (pValid x1 _ _ _ p HP.out).mono ?_; rintro e w' ⟨rfl, x1, rfl⟩)
    go_ret; exact ⟨ret_int hres.out.symm, x1.down hb1⟩
  cases b
  · have hres : Hid (askE p false = 1) := Lib.hid (by simp [askE, hv])
    go_wp2_with (go_at_call 36; refine (pValid x1 _ _ _ p HP.out).mono ?_; rintro e w' ⟨rfl, x1, rfl⟩)
    go_ret; exact ⟨ret_int hres.out.symm, x1.down hb1⟩
  have h300 := Lib.hid (fun i (hi : i < p.opts.length) => Nat.le_trans (valid_opts hv hi).2 (show 256 ≤ 300 by decide))
  have hgt := lspace_gt hv
  by_cases ht : 65536 < total p
  · have hA : decide (65536 < lspaceTo 65536 p.opts p.opts.length) = true := by simpa [hgt] using ht
    have hres : Hid (askE p true = 2) := Lib.hid (by simp [askE, hv, ht])
    clear hgt ht
    go_wp2_with (first | (go_at_call 36; refine (pValid x1 _ _ _ p HP.out).mono ?_; rintro e w' ⟨rfl, x1, rfl⟩) | (go_at_call 89; refine (pspace x1 _ _ _ p 65536 HP.out (by decide) (by decide) h300.out).mono ?_; rintro e w' ⟨rfl, x1, rfl⟩))
    go_ret; exact ⟨ret_int hres.out.symm, x1.down hb1⟩
  · have hA : decide (65536 < lspaceTo 65536 p.opts p.opts.length) = false := by simpa [hgt] using ht
    have hres : Hid (askE p true = 0) := Lib.hid (by simp [askE, hv, ht])
    clear hgt ht
    go_wp2_with (first | (go_at_call 36; refine (pValid x1 _ _ _ p HP.out).mono ?_; rintro e w' ⟨rfl, x1, rfl⟩) | (go_at_call 89; refine (pspace x1 _ _ _ p 65536 HP.out (by decide) (by decide) h300.out).mono ?_; rintro e w' ⟨rfl, x1, rfl⟩))
    go_ret; exact ⟨ret_int hres.out.symm, x1.down hb1⟩

set_option maxRecDepth 100000 in
set_option maxHeartbeats 1000000 in
theorem phas {W : World} (x : Later W) (v0 v1 v2 : Value) (p : Prob) (pane o : Int) (hp : IsProb W v0 v1 v2 p) (hlen : p.opts.length = p.panes.length) :
    Calls Try.prog 66 #[.agg #[v0, v1, v2], .int .i64 pane, .int .i64 o] x.w (Ends W (.bool (thereB p pane o))) := by
  replace hlen := Lib.hid hlen
  go_enter Try.func66, Try.ntmps66
  go_upto_region 1 with (fail)
  obtain ⟨W1, x1, e1, hb1, s1, p0, p1, p2⟩ := enter3 x v0 v1 v2 26
  rw [e1]; clear e1
  obtain ⟨ap, cp, rfl, lp, _⟩ := (hp.panes.below hb1).opened
  obtain ⟨ao, co, rfl, lo, hopts⟩ := (hp.opts.below hb1).opened
  clear hp
  cases hA : wi pane 0 ((p.panes.length : Int) - 1)
  · have hres : Hid (thereB p pane o = false) := Lib.hid (by simp [thereB, hA])
    go_wp2_with (go_at_call 94; refine (pwithin _ _ _ _).mono ?_; rintro e w' ⟨rfl, rfl⟩)
    go_ret; exact ⟨ret_bool hres.out.symm, x1.down hb1⟩
  · have hA' := wi_iff.1 hA
    have hres : Hid (thereB p pane o = wi o 0 (((nth p.opts pane.toNat).length : Int) - 1)) := Lib.hid (by simp [thereB, hA])
    have hidx : pane.toNat < p.opts.length := by have := hlen.out; omega
    obtain ⟨bo, oo, rfl, hbo, uo, co0, hO⟩ := hopts.out pane.toNat hidx
    obtain ⟨av, cv, rfl, lv, _⟩ := hO.opened
    go_wp2_with (go_at_call 94; refine (pwithin _ _ _ _).mono ?_; rintro e w' ⟨rfl, rfl⟩)
    go_ret; exact ⟨ret_bool hres.out.symm, x1.down hb1⟩
end Go.Proofs.Ytmpkbolabdmkkaa

/- CONTRACTS of places' fillings: the function, and the iterator that it hands back. -/
namespace Go.Proofs.Ytmpkbolabdmkkaa
open Go.RowKit

/-- HOW fillings ENDS: it hands back the iterator, with the problem's box and the list's -/
def EndsFills (W : World) (v0 v1 v2 vf : Value) (e : Ending) (w' : World) : Prop :=
  ∃ bp bf, e = .returned (.func (.func 146) #[] #[.pointer (some ⟨bf, 0, none⟩), .pointer (some ⟨bp, 0, none⟩)]) ∧ ∃ y : Later W, w' = y.w ∧ W.heap.size ≤ bp ∧ W.heap.size ≤ bf ∧ RdP W bp v0 v1 v2 y.w ∧ bf < y.w.heap.size ∧ y.w.cell? ⟨bf, 0, none⟩ = some vf

set_option maxRecDepth 100000 in
set_option maxHeartbeats 1000000 in
theorem pfillings {W : World} (x : Later W) (v0 v1 v2 vf : Value) (f : List Int) (hf : IsInts W vf f) : Calls Try.prog 110 #[.agg #[v0, v1, v2], vf] x.w (EndsFills W v0 v1 v2 vf) := by
  obtain ⟨af, cf, rfl, _, _⟩ := hf.opened
  clear hf
  go_enter Try.func110, Try.ntmps110
  go_wp2
  go_ret
  obtain ⟨y, hy⟩ := x.alloc (.cells #[v0, v1, v2] 26)
  obtain ⟨z, hz⟩ := y.alloc (.cells #[.slice af f.length cf] 22)
  refine ⟨_, _, rfl, z, ?_, ?_⟩
  · rw [← hz, ← hy]
  have hs1 : y.w.heap.size = x.w.heap.size + 1 := by rw [← hy]; simp
  have hb1 : Below y.w.heap.size y.w z.w := by rw [← hz]; exact below_alloc1 _ _
  have hc : ∀ i, y.w.cell? ⟨x.w.heap.size, i, none⟩ = #[v0, v1, v2][i]? := fun i => by rw [← hy]; exact World.cell?_alloc_at _ 26 _ i rfl
  have hc' : ∀ i, z.w.cell? ⟨x.w.heap.size, i, none⟩ = #[v0, v1, v2][i]? := fun i => (hb1.cell (p := ⟨x.w.heap.size, i, none⟩) (by show x.w.heap.size < _; rw [hs1]; omega)).trans (hc i)
  have hs2 : z.w.heap.size = x.w.heap.size + 2 := by rw [← hz, ← hy]; simp
  have := x.h.size
  refine ⟨this, by omega, ⟨⟨z, rfl⟩, by omega, hc' 0, hc' 1, hc' 2⟩, by omega, ?_⟩
  rw [← hz]; exact World.cell?_alloc_at _ 22 _ 0 hs1.symm

set_option maxRecDepth 100000 in
set_option maxHeartbeats 1000000 in
theorem iterFills {Wb W : World} (bp bf : Nat) (v0 v1 v2 vf : Value) (p : Prob) (r : Nat) (hp : IsProb Wb v0 v1 v2 p) (hv : validP p = true) (hr : r < total p)
    (hrd : RdP Wb bp v0 v1 v2 W) (hf : IsInts W vf (fill p r)) (hb : bf < W.heap.size) (hc : W.cell? ⟨bf, 0, none⟩ = some vf) :
    IterL 146 #[.pointer (some ⟨bf, 0, none⟩), .pointer (some ⟨bp, 0, none⟩)] (RdP Wb bp v0 v1 v2) ((fills p).drop r) W := by
  intro l J Jx hJ hJx hY h0
  rw [callsIn_wide]
  have hWb : Wb.heap.size ≤ W.heap.size := by obtain ⟨y, rfl⟩ := hrd.later; exact y.h.size
  have hcl := pcloneI (Later.now W) vf (fill p r) hf
  obtain ⟨af, cf, rfl, _, _⟩ := hf.opened
  show Calls Try.prog 146 #[.func (.yield l) #[] #[], .pointer (some ⟨bf, 0, none⟩), .pointer (some ⟨bp, 0, none⟩)] (Later.now W).w _
  have hc' : (Later.now W).w.cell? ⟨bf, 0, none⟩ = some (.slice af (fill p r).length cf) := hc
  have hb' : bf < (Later.now W).w.heap.size := hb
  go_enter Try.func146, Try.ntmps146
  go_upto_region 1 with (go_at_call 68; refine hcl.mono ?_; rintro e w' ⟨v, rfl, y, rfl, hown⟩; obtain ⟨A', c', rfl⟩ := owns_slice hown)
  have h64 : p.opts.length ≤ 17592186044416 := by have := valid_pane64 hv; rw [← valid_len hv] at this; omega
  have hmono : ∀ (y : Later W) (C : World), Eqb W.heap.size y.w C → Eqb W.heap.size W C := fun y C he => ⟨he.os.trans y.h.os, he.tape.trans y.h.tape, he.output.trans y.h.output, he.size, fun k hk => (he.block k hk).trans (y.h.block k hk)⟩
  have hyW : Eqb W.heap.size W y.w := Eqb.below y.h (Nat.le_refl _)
  have hbp : bp < W.heap.size := hrd.lt
  have hlen : ((fills p).drop r).length = total p - r := by rw [List.length_drop, fills_len]
  have hnth : ∀ k, r + k < total p → nth ((fills p).drop r) k = fill p (r + k) := fun k hk => by rw [nth_drop, nth_fills hk]
  have hflen : ∀ k, (fill p k).length = p.opts.length := fill_len p
  have hJ1 : J 0 y.w := hJ _ _ _ h0 hyW
  have hR1 : RdP Wb bp v0 v1 v2 y.w := hrd.eqb hyW hWb hbp
  rw [hflen] at hown ⊢
  replace hlen := Lib.hid hlen
  replace hnth := Lib.hid hnth
  replace hflen := Lib.hid hflen
  replace hJ := Lib.hid hJ
  replace hJx := Lib.hid hJx
  replace hY := Lib.hid hY
  replace hmono := Lib.hid hmono
  clear hyW hcl hf hc hc' hb' h0 hrd
  go_loopg [5] (total p - r) (fun g i wr => ∃ k : Nat, r + k < total p ∧ g = total p - r - k ∧ W.heap.size ≤ wr.heap.size ∧ J k wr ∧ RdP Wb bp v0 v1 v2 wr ∧ wr.ownsRow W.heap.size 3 1 (.slice A' p.opts.length c') p.opts.length ((fill p (r + k)).map (Value.int .i64)))
  case atStart => exact ⟨0, by omega, by omega, y.h.size, hJ1, hR1, hown⟩
  case round =>
    clear hJ1 hR1 hown
    obtain ⟨k, hk, hg, hsW, hJk, hR, hown⟩ := hrel
    have hI : IsInts wr (.slice A' p.opts.length c') (nth ((fills p).drop r) k) := by
      rw [hnth.out k hk]
      have := isInts_of_owns hown h64
      exact this
    obtain ⟨fn, tmps, assign, body, hy, hRound⟩ := hY.out k _ wr (by rw [hlen.out]; omega) hJk hR hI
    go_upto_region 1 with (fail)
    refine (wpIn_wide (n := 0)).1 ?_
    have hF : ∀ f, Fence.wide.fn f = True := fun _ => rfl
    have hD : Fence.wide.depth = none := rfl
    gi_wp2
    refine hRound.mono ?_
    rintro e A1 (⟨rfl, hJ1, hR1, hA1⟩ | ⟨rfl, hx1, _⟩)
    case inr =>
      gi_wp2
      go_wp2
      refine bodyPost_ret (results_none rfl _ _ _) rfl ?_
      exact ⟨⟨_, rfl⟩, .inr hx1⟩

    gi_wp2
    clear hF hD hy hRound hI
    obtain ⟨Wc, x, rfl, hsz, heq⟩ := cut_at A1 (Nat.le_trans hsW hA1.size)
    have hRc := hR1.eqb (heq (Later.now Wc)) hWb hbp
    have hbc : Below Wb.heap.size Wb Wc := by obtain ⟨y, hy⟩ := hRc.later; have h := y.h; rw [← hy] at h; exact h
    have hbpc : bp < Wc.heap.size := by rw [hsz]; exact hbp
    have p0 := Later.cell hbpc hRc.c0
    have p1 := Later.cell hbpc hRc.c1
    have p2 := Later.cell hbpc hRc.c2
    have s1 := Later.size hbpc
    replace hown := owns_above hown hA1
    rw [← hsz] at hown
    obtain ⟨ao, co, rfl, lo, hopts⟩ := (hp.opts.below hbc).opened
    obtain ⟨f, hf⟩ : ∃ f, f = fill p (r + k) := ⟨_, rfl⟩
    have hfl : f.length = p.opts.length := by rw [hf, hflen.out]
    have hnx := fill_next hv hk
    rw [← hf] at hown hnx
    have hfill : ∀ i, i < p.opts.length → 0 ≤ nth f i ∧ nth f i < (nth p.opts i).length := fun i hi => by have := fill_ok hv (r + k) i (by rw [hflen.out]; exact hi); rw [hf]; exact this
    have hlast := Lib.hid (fun h => hnx.symm.trans (@nextF_last' p f h))
    have hstop := Lib.hid (fun j hj hlt h => hnx.symm.trans (@nextF_stop' p f j hj hlt h))
    replace hJ1 := Lib.hid (fun y : Later Wc => hJ.out _ _ _ hJ1 (heq y))
    replace hR1 := Lib.hid (fun y : Later Wc => hR1.eqb (heq y) hWb hbp)
    replace hfill := Lib.hid hfill
    replace hfl := Lib.hid hfl
    clear hf hnx heq hRc hA1 hR hJk
    go_wp2
    go_loopw [5] (fun i wr => ∃ j : Nat, j ≤ p.opts.length ∧ i = .int .i64 ((j : Int) - 1) ∧ (∃ y : Later Wc, wr = y.w ∧ y.w.ownsRow Wc.heap.size 3 1 (.slice A' p.opts.length c') p.opts.length ((f.take j ++ List.replicate (f.length - j) 0).map (Value.int .i64))) ∧ (∀ i, j ≤ i → i < f.length → (dim p i : Int) ≤ nth f i + 1)) (fun i _ => (intOf i + 1).toNat)
    case atStart => exact ⟨p.opts.length, Nat.le_refl _, by go_num, ⟨x, rfl, by rw [hfl.out, Nat.sub_self, ← hfl.out, List.take_length, hfl.out]; simpa using hown⟩, by rw [hfl.out]; omega⟩
    case round =>
      clear hown
      obtain ⟨j, hj, rfl, ⟨x, rfl, hown⟩, hno⟩ := hrel
      replace hno := Lib.hid hno
      rcases Nat.eq_zero_or_pos j with rfl | hpos
      · go_wp2
        refine wp_region_later x (by kernel_rfl) (by kernel_rfl) ?_
        repeat (go_big_quiet_step (fail))
        refine wpQuiet_nil ?_
        rintro _ ⟨x, rfl⟩
        go_wp2
        refine bodyPost_ret (results_none rfl _ _ _) rfl ?_
        have hr1 := hlast.out (fun i hi => hno.out i (Nat.zero_le _) hi)
        have hend : k + 1 = ((fills p).drop r).length := by
          rw [hlen.out]
          by_cases hc : r + k + 1 < total p
          · rw [if_pos hc] at hr1; cases hr1
          · omega
        exact ⟨⟨_, rfl⟩, .inl (hend ▸ hJ1.out x)⟩
      · obtain ⟨j, rfl⟩ : ∃ i, j = i + 1 := ⟨j - 1, by omega⟩
        have hk' : j < p.opts.length := by omega
        have hkf : j < f.length := by rw [hfl.out]; exact hk'
        obtain ⟨g, c2, hv, _, _⟩ := owns_head hown (by omega)
        cases hv
        have ek : ((j + 1 : Nat) : Int) - 1 = j := by omega
        rw [ek]
        clear ek
        have hval : ((f.take (j + 1) ++ List.replicate (f.length - (j + 1)) 0).map (Value.int .i64))[j]? = some (.int .i64 (nth f j)) := by
          rw [nth_eq f j hkf]; simp [List.getElem?_append, Nat.min_eq_left (show j + 1 ≤ f.length by omega)]
        have hset0 := Lib.hid (set_zero f j hkf)
        have hset1 := Lib.hid (set_next f j hkf)
        obtain ⟨d0, _, d2, _⟩ := owns_at x hown j hk'
        rw [hval] at d0
        replace d0 := Since.cells (Later.cell d2 d0)
        replace d2 := Since.sizes (Later.size d2)
        replace hval := Lib.hid hval
        have hfk := hfill.out j hk'
        obtain ⟨bo, oo, rfl, hbo, uo, co0, hO⟩ := hopts.out j hk'
        obtain ⟨av, cv, rfl, lv, _⟩ := hO.opened
        cases hA : (nth f j == ((nth p.opts j).length : Int) - 1)
        · go_wp2
          refine wp_region_since x (by kernel_rfl) (by kernel_rfl) ?_
          repeat (go_big_quiet_step (fail))
          refine wpQuiet_nil ?_
          rintro _ ⟨⟨y, hy⟩, rfl⟩
          replace hown := owns_later hown hy
          clear d0 d2
          obtain ⟨d0, d1, d2, d3⟩ := owns_at y hown j hk'
          rw [hval.out] at d0
          obtain ⟨z, hz, hown', _⟩ := d3 (.int .i64 (nth f j + 1))
          clear d3
          go_wp2
          rw [hset1.out] at hown'
          have hr1 := hstop.out j hkf (by unfold dim; have := ne_beqI hA; omega) hno.out
          have hc : r + k + 1 < total p := by
            by_cases hc : r + k + 1 < total p
            · exact hc
            · rw [if_neg hc] at hr1; cases hr1
          rw [if_pos hc, Option.some.injEq] at hr1
          rw [← hr1] at hown'
          rw [hsz] at hown'
          go_roundg (total p - r - (k + 1))
          case measure => omega
          case rel => exact ⟨k + 1, by omega, rfl, hsz ▸ z.h.size, hJ1.out z, hR1.out z, hown'⟩
        · go_wp2
          refine wp_region_since x (by kernel_rfl) (by kernel_rfl) ?_
          repeat (go_big_quiet_step (fail))
          refine wpQuiet_nil ?_
          rintro _ ⟨⟨y, hy⟩, rfl⟩
          replace hown := owns_later hown hy
          clear d0 d2
          obtain ⟨d0, d1, d2, d3⟩ := owns_at y hown j hk'
          rw [hval.out] at d0
          obtain ⟨z, hz, hown', _⟩ := d3 (.int .i64 0)
          clear d3
          go_wp2
          go_roundw
          case rel => exact ⟨j, by omega, by go_num, ⟨z, rfl, by rw [← hset0.out]; exact hown'⟩, all_from hno.out (by unfold dim; have := eq_beqI hA; omega)⟩
          case measure => simp [intOf]
end Go.Proofs.Ytmpkbolabdmkkaa

/- CONTRACTS of places' agreeing: the function, and the iterator that it hands back. -/
namespace Go.Proofs.Ytmpkbolabdmkkaa
open Go.RowKit

theorem below_then {W w : World} (h : Below W.heap.size W w) (y : Later w) : Below W.heap.size W y.w := h.trans (y.h.mono h.size)

theorem RdP.up {Wb : World} {bp : Nat} {v0 v1 v2 : Value} {A : World} (h : RdP Wb bp v0 v1 v2 A) (y : Later A) : RdP Wb bp v0 v1 v2 y.w :=
  ⟨by obtain ⟨z, rfl⟩ := h.later; exact ⟨z.up y, rfl⟩, Nat.lt_of_lt_of_le h.lt y.h.size, (y.h.cell (p := ⟨bp, 0, none⟩) h.lt).trans h.c0, (y.h.cell (p := ⟨bp, 1, none⟩) h.lt).trans h.c1, (y.h.cell (p := ⟨bp, 2, none⟩) h.lt).trans h.c2⟩
/-- what is kept from block B on, and what else is known, keeps a box there -/
theorem RdP.above {Wb : World} {bp B : Nat} {v0 v1 v2 : Value} {A C : World} (h : RdP Wb bp v0 v1 v2 A) (ha : Above B A C) (hB : B ≤ bp) (hl : ∃ y : Later Wb, C = y.w) : RdP Wb bp v0 v1 v2 C :=
  have hc : ∀ i, C.cell? ⟨bp, i, none⟩ = A.cell? ⟨bp, i, none⟩ := fun _ => World.cell?_of_block (ha.block bp hB h.lt)
  ⟨hl, Nat.lt_of_lt_of_le h.lt ha.size, (hc 0).trans h.c0, (hc 1).trans h.c1, (hc 2).trans h.c2⟩

/-- 'make([]int, n)', run -/
theorem makeInts_run (n : Nat) (hn : n ≤ 17592186044416) : ∃ cs : Array Value, (∀ w : World, (Instr.makeSlice 22 (.int .i64 n) (.int .i64 n)).run Try.prog w = .ok (.slice (some ⟨w.heap.size, 0, none⟩) n n) (w.alloc (.cells cs 3))) ∧
    ∀ w : World, IsInts (w.alloc (.cells cs 3)) (.slice (some ⟨w.heap.size, 0, none⟩) n n) (List.replicate n 0) := by
  obtain ⟨i0, hi, hz0, hz1, hz2⟩ := info_parts Try.info3
  refine ⟨madeCells (Value.int .i64 0).cells n, fun w => ?_, fun w => ?_⟩
  · have := run_make (P := Try.prog) w 22 3 i0 _ Try.underlying22 hi hz0 .i64 .i64 n n (by omega) (by omega) (by rw [hz2]; omega) (by omega)
    simpa [hz1] using this
  · have hown : (w.alloc (.cells (madeCells (Value.int .i64 0).cells n) 3)).ownsRow w.heap.size 3 1 (.slice (some ⟨w.heap.size, 0, none⟩) n n) n ((List.replicate n 0).map (Value.int .i64)) := by
      have := World.ownsRow_lit (base := w.heap.size) (e := 3) (size := 1) w (madeCells (Value.int .i64 0).cells n) n (Nat.le_refl _) (by unfold maxLen; omega) (by simp [size_madeCells])
      rw [show (madeCells (Value.int .i64 0).cells n).toList = (List.replicate n (0 : Int)).map (Value.int .i64) by rw [List.map_replicate]; exact toList_madeCells_one _ _] at this
      exact this
    have := isInts_of_owns hown hn
    simpa using this

/-- HOW agreeing ENDS: it hands back the iterator, with the problem's box -/
def EndsAgr (W : World) (v0 v1 v2 : Value) (e : Ending) (w' : World) : Prop :=
  ∃ bp, e = .returned (.func (.func 124) #[] #[.pointer (some ⟨bp, 0, none⟩)]) ∧ ∃ y : Later W, w' = y.w ∧ W.heap.size ≤ bp ∧ RdP W bp v0 v1 v2 y.w

set_option maxRecDepth 100000 in
set_option maxHeartbeats 1000000 in
theorem pagreeing {W : World} (x : Later W) (v0 v1 v2 : Value) : Calls Try.prog 67 #[.agg #[v0, v1, v2]] x.w (EndsAgr W v0 v1 v2) := by
  go_enter Try.func67, Try.ntmps67
  go_wp2
  go_ret
  obtain ⟨y, hy⟩ := x.alloc (.cells #[v0, v1, v2] 26)
  have hc : ∀ i, y.w.cell? ⟨x.w.heap.size, i, none⟩ = #[v0, v1, v2][i]? := fun i => by rw [← hy]; exact World.cell?_alloc_at _ 26 _ i rfl
  have hs : y.w.heap.size = x.w.heap.size + 1 := by rw [← hy]; simp
  exact ⟨_, rfl, y, hy, x.h.size, ⟨y, rfl⟩, by omega, hc 0, hc 1, hc 2⟩

set_option maxRecDepth 100000 in
set_option maxHeartbeats 1000000 in
theorem iterAgr {Wb W : World} (bp : Nat) (v0 v1 v2 : Value) (p : Prob) (hp : IsProb Wb v0 v1 v2 p) (hv : validP p = true) (hrd : RdP Wb bp v0 v1 v2 W) :
    IterL 124 #[.pointer (some ⟨bp, 0, none⟩)] (RdP Wb bp v0 v1 v2) (agr p) W := by
  intro l J Jx hJ hJx hY h0
  have hWb : Wb.heap.size ≤ W.heap.size := by obtain ⟨y, rfl⟩ := hrd.later; exact y.h.size
  have hbp := hrd.lt
  have h64 : p.panes.length ≤ 64 := valid_pane64 hv
  have hlen := valid_len hv
  refine callsIn_of_wp_marks (F := Fence.wide) (n := 0) Try.func124 rfl trivial ?_ rfl
  refine (wpIn_wide (n := 0)).2 ?_
  show Code.wp Try.prog _ _ { tmps := #[.func (.yield l) #[] #[], .pointer (some ⟨bp, 0, none⟩)] ++ _, defers := [] } W
  simp only [Try.ntmps124, List.size_toArray, List.length_cons, List.length_nil, Nat.reduceAdd, Nat.reduceSub, Array.replicate_succ, Array.replicate_zero, List.push_toArray, List.append_toArray, List.nil_append, List.cons_append]
  go_upto_region 1 with (fail)
  obtain ⟨W1, hW1⟩ : ∃ W1, W.alloc (Obj.cells #[Value.func (Fn.yield l) #[] #[]] 89) = W1 := ⟨_, rfl⟩
  have hb1 : Below W.heap.size W W1 := hW1 ▸ below_alloc1 _ _
  have hs1 : W1.heap.size = W.heap.size + 1 := by rw [← hW1]; simp
  have cy : W1.cell? ⟨W.heap.size, 0, none⟩ = some (Value.func (Fn.yield l) #[] #[]) := by rw [← hW1]; simp
  have he1 := Eqb.below hb1 (Nat.le_refl _)
  have hrd1 := hrd.eqb he1 hWb hbp
  have hJ1 := hJ _ _ _ h0 he1
  rw [hW1]
  clear hW1
  replace hs1 := Lib.hid hs1
  obtain ⟨ap, cp, rfl, lp, _⟩ := hp.panes.opened
  obtain ⟨ao, co, rfl, lo, _⟩ := hp.opts.opened
  obtain ⟨ar, cr, rfl, lr, _⟩ := hp.rules.opened
  obtain ⟨cs, hmk, hz⟩ := makeInts_run p.panes.length (by omega)
  have hbp1 : bp < W1.heap.size := hrd1.lt
  have p0 := Later.cell hbp1 hrd1.c0
  have p1 := Later.cell hbp1 hrd1.c1
  have p2 := Later.cell hbp1 hrd1.c2
  have keep : ∀ w' : World, Below W1.heap.size W1 w' → Below W1.heap.size W1 w' ∧ w'.cell? ⟨bp, 0, none⟩ = some (.slice ap p.panes.length cp) ∧ w'.cell? ⟨bp, 1, none⟩ = some (.slice ao p.opts.length co) ∧ w'.cell? ⟨bp, 2, none⟩ = some (.slice ar p.rules.length cr) := fun w' h => ⟨h, p0 ⟨w', h⟩, p1 ⟨w', h⟩, p2 ⟨w', h⟩⟩
  have hz1 : IsInts (W1.alloc (.cells cs 3)).drew (.slice (some ⟨W1.heap.size, 0, none⟩) p.panes.length p.panes.length) (List.replicate p.panes.length 0) := (hz W1).below (Below.drew (Below.refl _ _))
  have hbz : Below W1.heap.size W1 (W1.alloc (.cells cs 3)).drew := Below.drew (Below.alloc (Below.refl _ _) (Nat.le_refl _) _)
  replace hJ := Lib.hid hJ
  replace hJx := Lib.hid hJx
  replace hY := Lib.hid hY
  replace hlen := Lib.hid hlen
  clear h0 hrd
  go_region_held3 (fun w' => Below W1.heap.size W1 w' ∧ w'.cell? ⟨bp, 0, none⟩ = some (.slice ap p.panes.length cp) ∧ w'.cell? ⟨bp, 1, none⟩ = some (.slice ao p.opts.length co) ∧ w'.cell? ⟨bp, 2, none⟩ = some (.slice ar p.rules.length cr)) ((refine keep _ ?_; first | exact Below.refl _ _ | exact hbz | exact below_then hbz _ | exact Below.drew (Below.refl _ _) | exact Below.alloc (Below.refl _ _) (Nat.le_refl _) _))
    (first | (go_at_call 110; refine (pfillings (Later.now (W1.alloc (.cells cs 3)).drew) _ _ _ _ (List.replicate p.panes.length 0) hz1).mono ?_; rintro e w' ⟨bq, bf, rfl, y, rfl, hq1, hq2, hq3, hq4, hq5⟩))
  rename_i hH
  have hsW : W.heap.size < y.w.heap.size := by have h1 := hH.1.size; have h2 := hs1.out; omega
  have hew : Eqb W.heap.size W1 y.w := Eqb.below (hH.1.mono (by have := hs1.out; omega)) (by have := hs1.out; omega)
  have hJw := hJ.out _ _ _ hJ1 hew
  have hRw := hrd1.eqb hew hWb hbp
  have hcw : y.w.cell? ⟨W.heap.size, 0, none⟩ = some (Value.func (Fn.yield l) #[] #[]) := (hH.1.cell (p := ⟨W.heap.size, 0, none⟩) (by show W.heap.size < _; have := hs1.out; omega)).trans cy
  have hRq : RdP Wb bq (.slice ap p.panes.length cp) (.slice ao p.opts.length co) (.slice ar p.rules.length cr) y.w := ⟨hRw.later, hq3.lt, hq3.c0, hq3.c1, hq3.c2⟩
  have hI0 : IsInts y.w (.slice (some ⟨W1.heap.size, 0, none⟩) p.panes.length p.panes.length) (fill p 0) := by rw [fill_0, hlen.out]; exact hz1.below y.h
  have hsz : W.heap.size ≤ bq := by have h1 := hs1.out; have : W1.heap.size ≤ (W1.alloc (.cells cs 3)).drew.heap.size := hbz.size; omega
  have hbqs := hq3.lt
  obtain ⟨w, hw⟩ : ∃ w, y.w = w := ⟨_, rfl⟩
  rw [hw] at hsW hew hJw hRw hcw hRq hI0 hq4 hq5 hbqs ⊢
  clear hw hH hq3 hq1 hq2 hz1 hbz keep p0 p1 p2 hbp1 hz hmk hrd1 hJ1 he1 cy hs1 hb1 hew y
  go_wp2
  refine (wpIn_wide (n := 0)).1 ?_
  refine' wpIn_rangeL (gf := 146) rfl (enters_of Try.func146 (by kernel_rfl) rfl) rfl (RdP Wb bq (.slice ap p.panes.length cp) (.slice ao p.opts.length co) (.slice ar p.rules.length cr)) (fills p) ?iter
    (fun k A => J (agrTo p k).length A ∧ RdP Wb bp (.slice ap p.panes.length cp) (.slice ao p.opts.length co) (.slice ar p.rules.length cr) A ∧ A.cell? ⟨W.heap.size, 0, none⟩ = some (Value.func (Fn.yield l) #[] #[]))
    (fun c A => c = .ret ∧ Jx A) ?hI ?hIx ?hRd ⟨hJw, hRw, hcw⟩ hRq _ ?assign ?body ?done ?stop
  case assign =>
    intro l v W K hK
    have hS := @Oper.semAt_some
    gi_wp2
    exact hK
  case iter =>
    intro W2 hb2 hr2
    have := iterFills bq bf _ _ _ _ p 0 hp hv (total_pos hv) hr2 (hI0.below hb2) (Nat.lt_of_lt_of_le hq4 hb2.size) ((hb2.cell (p := ⟨bf, 0, none⟩) hq4).trans hq5)
    rwa [List.drop_zero] at this
  case hI => exact fun k A B ⟨h1, h2, h3⟩ he => ⟨hJ.out _ _ _ h1 (he.mono (by omega)), h2.eqb he (by omega) (by omega), (he.cell (p := ⟨W.heap.size, 0, none⟩) hsW).trans h3⟩
  case hIx => exact fun c A B ⟨h1, h2⟩ he => ⟨h1, hJx.out _ _ h2 (he.mono (by omega))⟩
  case hRd => exact fun A B h he => h.eqb he (by omega) hbqs
  case stop =>
    rintro D c A hD ⟨rfl, hx⟩ hdf
    refine (wpIn_wide (n := 0)).2 ?_
    go_wp2
    exact leaves_mark hdf (results_none rfl _ _ _) ⟨⟨_, rfl⟩, .inr (hJx.out _ _ hx (Calm.putObj hdf rfl (by omega) _))⟩
  case done =>
    rintro D A hD ⟨hj, _, _⟩ hdf
    rw [agrTo_all] at hj
    go_wp2
    exact leaves_mark hdf (results_none rfl _ _ _) ⟨⟨_, rfl⟩, .inl (hJ.out _ _ _ hj (Eqb.putObj (by have := (Array.getElem?_eq_some_iff.1 hdf).1; omega) (by omega) _))⟩
  case body =>
    rintro l2 k v A hk ⟨hj, hR1, hcA⟩ hR2 hvA
    generalize hQ : roundEnd w.heap.size _ _ _ A = Q
    replace hQ := Lib.hid hQ
    rw [fills_len] at hk
    rw [nth_fills hk] at hvA
    have hbA : Below Wb.heap.size Wb A := by obtain ⟨y, rfl⟩ := hR1.later; exact y.h
    have hAs : bp < A.heap.size := hR1.lt
    have hWA : W.heap.size < A.heap.size := by have := hR2.lt; omega
    have hup : ∀ (k : Nat) (y : Later A), J k A → J k y.w := fun k y h => hJ.out _ _ _ h (Eqb.below (y.h.mono (by omega)) (by omega))
    have a0 := Later.cell hAs hR1.c0
    have a1 := Later.cell hAs hR1.c1
    have a2 := Later.cell hAs hR1.c2
    replace hcA := Later.cell hWA hcA
    have hsY := Later.size hWA
    replace hup := Lib.hid hup
    have hC := Lib.hid (fun y : Later A => pagrees y _ _ _ _ p (fill p k) (hp.below hbA) hvA hv (fill_B hv k))
    have hS := @Oper.semAt_some
    have hF : ∀ f, Fence.wide.fn f = True := fun _ => rfl
    have hD : Fence.wide.depth = none := rfl
    replace hvA := Lib.hid hvA
    obtain ⟨av, cv, rfl, _, _⟩ := hvA.out.opened
    replace hR1 := Lib.hid hR1
    replace hR2 := Lib.hid hR2
    replace hj := Lib.hid hj
    replace hvA := Lib.hid hvA.out
    have hk' : k < (fills p).length := by rw [fills_len]; exact hk
    cases hA : agreesB p (fill p k)
    · have hS1 := Lib.hid (agrTo_no hk' (by rw [nth_fills hk]; exact hA))
      show Code.wpIn _ _ _ _ _ _ (Later.now A).w
      gi_wp2_with (gi_at_call 101; refine (CallsIn.inRound l2 (callsIn_wide.2 (hC.out _))).mono ?_; rintro e w' ⟨rfl, y, rfl⟩)
      all_goals
        rw [← hQ.out]
        exact ⟨Above.below y.h, hR2.out.up y, by rw [hS1.out]; exact hup.out _ y hj.out, hR1.out.up y, hcA y⟩
    · have hS1 := Lib.hid (agrTo_yes hk' (by rw [nth_fills hk]; exact hA))
      obtain ⟨hag1, hag2⟩ := agr_at hk' (by rw [nth_fills hk]; exact hA)
      have hYk := Lib.hid (fun y : Later A => hY.out _ _ _ hag1 (hup.out _ y hj.out) (hR1.out.up y) (by rw [hag2, nth_fills hk]; exact hvA.out.below y.h))
      clear hag1 hag2
      show Code.wpIn _ _ _ _ _ _ (Later.now A).w
      gi_wp2_with (gi_at_call 101; refine (CallsIn.inRound l2 (callsIn_wide.2 (hC.out _))).mono ?_; rintro e w' ⟨rfl, y, rfl⟩; obtain ⟨fn, tmps, asg, bd, hy, hRound⟩ := hYk.out y)
      refine (round_in l2 hRound).mono ?_
      rintro e A1 (⟨rfl, hJ1, hR3, hA1⟩ | ⟨rfl, hx1, hA1⟩)
      · gi_wp2
        rw [← hQ.out]
        refine ⟨(Above.below y.h).trans (hA1.mono (by omega)), (hR2.out.up y).above hA1 hsz hR3.later, ?_, hR3, (World.cell?_of_block (hA1.block W.heap.size (Nat.le_refl _) (hsY y))).trans (hcA y)⟩
        rw [hS1.out, List.length_append]; exact hJ1
      · gi_wp2
        rw [← hQ.out]
        exact ⟨(Above.below y.h).trans (hA1.mono (by omega)), rfl, hx1⟩
end Go.Proofs.Ytmpkbolabdmkkaa

/- CONTRACTS of places' Count and First. -/
namespace Go.Proofs.Ytmpkbolabdmkkaa
open Go.RowKit

theorem leaves_none {fn : Func} {tmps : Array Value} {R : Ending → World → Prop} {W : World} {v : Value} (hr : (results fn tmps).run Try.prog W = .ok v W) (hR : R (.returned v) W) :
    LeavesInM Fence.wide 0 Try.prog fn tmps R [] .returning W := ⟨v, hr, hR⟩
theorem RdP.setCell {Wb : World} {bp b i : Nat} {v0 v1 v2 : Value} {A : World} (h : RdP Wb bp v0 v1 v2 A) (hb : Wb.heap.size ≤ b) (hne : b ≠ bp) (u : Value) : RdP Wb bp v0 v1 v2 (A.setCell ⟨b, i, none⟩ u) :=
  have hc : ∀ j, (A.setCell ⟨b, i, none⟩ u).cell? ⟨bp, j, none⟩ = A.cell? ⟨bp, j, none⟩ := fun _ => World.cell?_setCell_other _ _ _ _ (fun e => hne (by cases e; rfl))
  ⟨by obtain ⟨z, rfl⟩ := h.later; exact ⟨⟨_, z.h.setCell (p := ⟨b, i, none⟩) hb u⟩, rfl⟩, by simpa [World.setCell] using h.lt, (hc 0).trans h.c0, (hc 1).trans h.c1, (hc 2).trans h.c2⟩

set_option maxRecDepth 100000 in
set_option maxHeartbeats 1000000 in
theorem pCount {W : World} (x : Later W) (v0 v1 v2 : Value) (p : Prob) (hp : IsProb W v0 v1 v2 p) :
    Calls Try.prog 28 #[.agg #[v0, v1, v2]] x.w (Ends W (.tuple #[.int .i64 (countV p), .int .i64 (largeE p)])) := by
  refine (callsIn_wide (n := 0)).1 (callsIn_of_wp_marks (F := Fence.wide) (n := 0) Try.func28 rfl trivial ?_ rfl)
  refine (wpIn_wide (n := 0)).2 ?_
  simp only [Try.ntmps28, List.size_toArray, List.length_cons, List.length_nil, Nat.reduceAdd, Nat.reduceSub, Array.replicate_succ, Array.replicate_zero, List.push_toArray, List.append_toArray, List.nil_append, List.cons_append]
  go_upto_region 1 with (fail)
  obtain ⟨W1, x1, e1, hb1, s1, p0, p1, p2⟩ := enter3 x v0 v1 v2 26
  rw [e1]; clear e1
  have HP := Lib.hid (hp.below hb1)
  obtain ⟨ap, cp, rfl, lp, _⟩ := hp.panes.opened
  obtain ⟨ao, co, rfl, lo, _⟩ := hp.opts.opened
  obtain ⟨ar, cr, rfl, lr, _⟩ := hp.rules.opened
  clear hp
  by_cases h0 : largeE p = 0
  · have hb0 : (askE p true != 0) = false := by rw [askE_true]; simp [h0]
    obtain ⟨hv, ht⟩ := largeE_0.1 h0
    have hle := agr_len p
    have hres : Hid (countV p = (agr p).length ∧ largeE p = 0) := Lib.hid ⟨by simp [countV, h0], h0⟩
    clear h0
    go_wp2_with (first | (go_at_call 65; refine (pasked x1 _ _ _ p true HP.out).mono ?_; rintro e w' ⟨rfl, x1, rfl⟩) | (go_at_call 67; obtain ⟨W2, hW2⟩ : ∃ W2, x1.w.alloc (.cells #[.int .i64 0] 3) = W2 := ⟨_, rfl⟩; rw [hW2]; refine (pagreeing (Later.now W2) _ _ _).mono ?_; rintro e w' ⟨bq, rfl, y, rfl, hq1, hq2⟩))
    have hb2 : Below W1.heap.size W1 W2 := hW2 ▸ x1.h.alloc x1.h.size _
    have hs2 : W2.heap.size = x1.w.heap.size + 1 := by rw [← hW2]; simp
    have hc2 : W2.cell? ⟨x1.w.heap.size, 0, none⟩ = some (.int .i64 0) := by rw [← hW2]; simp
    have hf2 : W2.frozen? ⟨x1.w.heap.size, 0, none⟩ = false := by rw [← hW2]; simp
    obtain ⟨b, hb⟩ : ∃ b, x1.w.heap.size = b := ⟨_, rfl⟩
    have hWb : W1.heap.size ≤ b := hb ▸ x1.h.size
    rw [hb] at hs2 hc2 hf2 ⊢
    have hby : b < y.w.heap.size := by have := y.h.size; omega
    have hcy : y.w.cell? ⟨b, 0, none⟩ = some (.int .i64 0) := (y.h.cell (p := ⟨b, 0, none⟩) (by show b < _; omega)).trans hc2
    have hfy : y.w.frozen? ⟨b, 0, none⟩ = false := (y.h.frozen (p := ⟨b, 0, none⟩) (by show b < _; omega)).trans hf2
    have hly : ∃ z : Later W1, y.w = z.w := ⟨⟨y.w, below_then hb2 y⟩, rfl⟩
    have hq3 : RdP W1 bq (.slice ap p.panes.length cp) (.slice ao p.opts.length co) (.slice ar p.rules.length cr) y.w := ⟨hly, hq2.lt, hq2.c0, hq2.c1, hq2.c2⟩
    obtain ⟨w, hw⟩ : ∃ w, y.w = w := ⟨_, rfl⟩
    rw [hw] at hby hcy hfy hly hq3 ⊢
    have hbq : b < bq := by omega
    clear hq2 hw y hf2 hc2 hs2 hb2 hW2 hb hq1 x1
    refine (wpIn_wide (n := 0)).1 ?_
    refine' wpIn_rangeL (gf := 124) rfl (enters_of Try.func124 (by kernel_rfl) rfl) rfl (RdP W1 bq (.slice ap p.panes.length cp) (.slice ao p.opts.length co) (.slice ar p.rules.length cr)) (agr p) ?iter
      (fun k A => (∃ z : Later W1, A = z.w) ∧ b < A.heap.size ∧ A.cell? ⟨b, 0, none⟩ = some (.int .i64 k) ∧ A.frozen? ⟨b, 0, none⟩ = false)
      (fun _ _ => False) ?hI ?hIx ?hRd ⟨hly, hby, hcy, hfy⟩ hq3 _ ?assign ?body ?done ?stop
    case assign =>
      intro l v W K hK
      have hS := @Oper.semAt_some
      gi_wp2
      exact hK
    case iter => exact fun W2 hb2 hr2 => iterAgr bq _ _ _ p HP.out hv hr2
    case hI => exact fun k A B ⟨h1, h2, h3, h4⟩ he => ⟨he.later (by omega) h1, Nat.lt_of_lt_of_le hby he.size, (he.cell (p := ⟨b, 0, none⟩) hby).trans h3, (he.frozen (p := ⟨b, 0, none⟩) hby).trans h4⟩
    case hIx => exact fun c A B h he => h
    case hRd => exact fun A B h he => h.eqb he (by omega) hq3.lt
    case stop => exact fun D c A hD h hdf => h.elim
    case done =>
      rintro D A hD ⟨hl, _, hc, _⟩ hdf
      go_wp2
      refine leaves_mark hdf (results_tmp2 rfl _ _ _) ?_
      obtain ⟨z, rfl⟩ := hl
      obtain ⟨z', hz'⟩ := z.putObj (l := D) (by omega) (.deferred none)
      rw [hz']
      exact ⟨by rw [hres.out.1, hres.out.2]; rfl, z'.down hb1⟩
    case body =>
      rintro l2 k v A hk ⟨⟨z, rfl⟩, hbz, hc, hf⟩ hR hvA
      generalize hQ : roundEnd w.heap.size _ _ _ z.w = Q
      replace hQ := Lib.hid hQ
      have hS := @Oper.semAt_some
      have hF : ∀ f, Fence.wide.fn f = True := fun _ => rfl
      have hD : Fence.wide.depth = none := rfl
      have hk1 : k < 65536 := by omega
      gi_wp2
      rw [← hQ.out]
      refine ⟨(Above.refl _ _).setCell (p := ⟨b, 0, none⟩) hby _, hR.setCell hWb (by omega) _, ⟨⟨_, z.h.setCell (p := ⟨b, 0, none⟩) hWb _⟩, rfl⟩, by simpa [World.setCell] using hbz, ?_, ?_⟩
      · exact (World.cell?_setCell_same _ _ _ hc).trans rfl
      · exact (World.frozen?_setCell _ _ _ _).trans hf
  · have hb0 : (askE p true != 0) = true := by rw [askE_true]; simp [h0]
    have hres : Hid (countV p = 0) := Lib.hid (by simp [countV, h0])
    clear h0
    go_wp2_with (go_at_call 65; refine (pasked x1 _ _ _ p true HP.out).mono ?_; rintro e w' ⟨rfl, x1, rfl⟩)
    refine leaves_none (results_tmp2 rfl _ _ _) ?_
    exact ⟨by rw [hres.out, ← askE_true]; rfl, x1.down hb1⟩

/-- a function's two results, in boxes -/
theorem results_cell2 {fn : Func} {b2 b3 : Nat} {ty ty' : TypeId} {tmps : Array Value} {w : World} {v v' : Value} (p u : Tmp) (h : fn.results = #[.cell p ty, .cell u ty']) (hp : tmps.getD p undef = .pointer (some ⟨b2, 0, none⟩)) (hu : tmps.getD u undef = .pointer (some ⟨b3, 0, none⟩))
    (h2 : (loadVar ty ⟨b2, 0, none⟩).run Try.prog w = .ok v w) (h3 : (loadVar ty' ⟨b3, 0, none⟩).run Try.prog w = .ok v' w) : (results fn tmps).run Try.prog w = .ok (.tuple #[v, v']) w := by
  rw [Array.getD_eq_getD_getElem?] at hp hu
  simp only [results, h]
  simp [Sem.run_bind, Result.andThen, hp, hu, asAddr, h2, h3]
theorem loadVar_cell {ty : TypeId} (h22 : ty = 22 ∨ ty = 29) {b : Nat} {w : World} {v : Value} (hc : w.cell? ⟨b, 0, none⟩ = some v) : (loadVar ty ⟨b, 0, none⟩).run Try.prog w = .ok v w := by
  rcases h22 with rfl | rfl <;> go_simp

theorem two_set {A : World} {b2 b3 : Nat} {u2 u3 : Value} (hne : b2 ≠ b3) (h2 : A.cell? ⟨b2, 0, none⟩ = some u2) (h3 : A.cell? ⟨b3, 0, none⟩ = some u3) (v v' : Value) :
    ((A.setCell ⟨b2, 0, none⟩ v).setCell ⟨b3, 0, none⟩ v').cell? ⟨b2, 0, none⟩ = some v ∧ ((A.setCell ⟨b2, 0, none⟩ v).setCell ⟨b3, 0, none⟩ v').cell? ⟨b3, 0, none⟩ = some v' := by
  have e1 : (⟨b3, 0, none⟩ : Addr) ≠ ⟨b2, 0, none⟩ := fun h => hne (by cases h; rfl)
  refine ⟨(World.cell?_setCell_other _ _ _ _ e1).trans (World.cell?_setCell_same _ _ _ h2), World.cell?_setCell_same (u := u3) _ _ _ ?_⟩
  exact (World.cell?_setCell_other _ _ _ _ (Ne.symm e1)).trans h3
theorem Later.set {W : World} (x : Later W) {b : Nat} (hb : W.heap.size ≤ b) (v : Value) : ∃ y : Later W, x.w.setCell ⟨b, 0, none⟩ v = y.w := ⟨⟨_, x.h.setCell (p := ⟨b, 0, none⟩) hb v⟩, rfl⟩
theorem isInts_nil (w : World) : IsInts w (.slice none 0 0) [] := ⟨none, 0, rfl, by simp, fun _ h => absurd h (Nat.not_lt_zero _)⟩
theorem heap_two {A : World} {b2 b3 D : Nat} {v v' : Value} (h2 : b2 < D) (h3 : b3 < D) : ((A.setCell ⟨b2, 0, none⟩ v).setCell ⟨b3, 0, none⟩ v').heap[D]? = A.heap[D]? :=
  (Below.heap_setCell _ ⟨b3, 0, none⟩ _ D (by show D ≠ b3; omega)).trans (Below.heap_setCell _ ⟨b2, 0, none⟩ _ D (by show D ≠ b2; omega))

theorem owns_two {A : World} {B b2 b3 : Nat} {u u' v : Value} {n : Nat} {xs : List Value} (h : A.ownsRow B 3 1 v n xs) (h2 : b2 < B) (h3 : b3 < B) : ((A.setCell ⟨b2, 0, none⟩ u).setCell ⟨b3, 0, none⟩ u').ownsRow B 3 1 v n xs := by
  have hne : ∀ b, b < B → v.ownBlock ≠ some b := fun b hb e => by have := (h.lt b e).1; omega
  exact (h.kept (grownBy_setCell' _ b2 _) (.inr (hne b2 h2))).kept (grownBy_setCell' _ b3 _) (.inr (hne b3 h3))

/-- a problem's box, and behind it two results' boxes -/
theorem enterR {W : World} (x : Later W) (v0 v1 v2 u2 u3 : Value) (T T2 T3 : TypeId) : ∃ W1 W2 : World, ((x.w.alloc (.cells #[v0, v1, v2] T)).alloc (.cells #[u2] T2)).alloc (.cells #[u3] T3) = W2 ∧ Below W.heap.size W W1 ∧ Below W1.heap.size W1 W2 ∧
    (W1.heap.size = x.w.heap.size + 1 ∧ W2.heap.size = x.w.heap.size + 3) ∧ (∀ y : Later W1, x.w.heap.size < y.w.heap.size) ∧
    (∀ y : Later W1, y.w.cell? ⟨x.w.heap.size, 0, none⟩ = some v0) ∧ (∀ y : Later W1, y.w.cell? ⟨x.w.heap.size, 1, none⟩ = some v1) ∧ (∀ y : Later W1, y.w.cell? ⟨x.w.heap.size, 2, none⟩ = some v2) ∧
    (∀ y : Later W2, y.w.cell? ⟨x.w.heap.size + 1, 0, none⟩ = some u2 ∧ y.w.frozen? ⟨x.w.heap.size + 1, 0, none⟩ = false) ∧ ∀ y : Later W2, y.w.cell? ⟨x.w.heap.size + 1 + 1, 0, none⟩ = some u3 ∧ y.w.frozen? ⟨x.w.heap.size + 1 + 1, 0, none⟩ = false := by
  obtain ⟨W1, x1, e1, hb1, s1, p0, p1, p2⟩ := enter3 x v0 v1 v2 T
  have hs1 : x1.w.heap.size = x.w.heap.size + 1 := by rw [← e1]; simp
  have hsW : (x.w.alloc (.cells #[v0, v1, v2] T)).heap.size = x.w.heap.size + 1 := by simp
  refine ⟨x.w.alloc (.cells #[v0, v1, v2] T), _, rfl, x.h.alloc x.h.size _, ((Below.refl _ _).alloc (Nat.le_refl _) _).alloc (by simp) _, ⟨hsW, by simp⟩, ?_, ?_, ?_, ?_, ?_, ?_⟩
  · exact Later.size (by rw [hsW]; omega)
  · exact Later.cell (by rw [hsW]; omega) (by rw [e1]; exact p0 x1)
  · exact Later.cell (by rw [hsW]; omega) (by rw [e1]; exact p1 x1)
  · exact Later.cell (by rw [hsW]; omega) (by rw [e1]; exact p2 x1)
  · refine fun y => ⟨Later.cell (by simp) ?_ y, Later.frozen (by simp) ?_ y⟩
    · exact (World.cell?_alloc_past _ _ 0 (by simp)).trans (World.cell?_alloc_at _ T2 _ 0 hsW.symm)
    · exact (World.frozen?_alloc_past _ _ 0 (by simp)).trans (World.frozen?_alloc_at _ T2 _ 0 hsW.symm)
  · refine fun y => ⟨Later.cell (by simp) ?_ y, Later.frozen (by simp) ?_ y⟩
    · exact World.cell?_alloc_at _ T3 _ 0 (by simp)
    · exact World.frozen?_alloc_at _ T3 _ 0 (by simp)

set_option maxRecDepth 100000 in
set_option maxHeartbeats 1000000 in
theorem pFirst {W : World} (x : Later W) (v0 v1 v2 : Value) (p : Prob) (hp : IsProb W v0 v1 v2 p) :
    Calls Try.prog 30 #[.agg #[v0, v1, v2]] x.w (EndsIntsE W (firstL p) (firstE p)) := by
  refine (callsIn_wide (n := 0)).1 (callsIn_of_wp_marks (F := Fence.wide) (n := 0) Try.func30 rfl trivial ?_ rfl)
  refine (wpIn_wide (n := 0)).2 ?_
  simp only [Try.ntmps30, List.size_toArray, List.length_cons, List.length_nil, Nat.reduceAdd, Nat.reduceSub, Array.replicate_succ, Array.replicate_zero, List.push_toArray, List.append_toArray, List.nil_append, List.cons_append]
  go_upto_region 1 with (fail)
  obtain ⟨W1, W2, e2, hb1, hb2, ⟨hs1, hs2⟩, s1, p0, p1, p2, c2, c3⟩ := enterR x v0 v1 v2 (.slice none 0 0) (.int .i64 0) 26 22 29
  rw [e2]; clear e2
  have c2a := fun y => (c2 y).1
  have c2b := fun y => (c2 y).2
  have c3a := fun y => (c3 y).1
  have c3b := fun y => (c3 y).2
  clear c2 c3
  replace s1 := Later.sizes hb2 s1
  replace p0 := Later.cells hb2 p0
  replace p1 := Later.cells hb2 p1
  replace p2 := Later.cells hb2 p2
  have HP1 := Lib.hid (hp.below hb1)
  have HP := Lib.hid (HP1.out.below hb2)
  obtain ⟨ap, cp, rfl, lp, _⟩ := hp.panes.opened
  obtain ⟨ao, co, rfl, lo, _⟩ := hp.opts.opened
  obtain ⟨ar, cr, rfl, lr, _⟩ := hp.rules.opened
  have hb12 := hb1.trans (hb2.mono hb1.size)
  have hWx := x.h.size
  replace hs1 := Lib.hid hs1
  replace hs2 := Lib.hid hs2
  obtain ⟨b2, hB2⟩ : ∃ b2, x.w.heap.size + 1 = b2 := ⟨_, rfl⟩
  rw [hB2] at c2a c2b c3a c3b ⊢
  have hne : (⟨b2, 0, none⟩ : Addr) ≠ ⟨b2 + 1, 0, none⟩ := by simp
  replace hB2 := Lib.hid hB2
  clear hp
  show Code.wp _ _ _ _ (Later.now W2).w
  by_cases h0 : largeE p = 0
  case neg =>
    have hb0 : (askE p true != 0) = true := by rw [askE_true]; simp [h0]
    have hres : Hid (firstE p = askE p true ∧ firstL p = []) := Lib.hid (by rw [askE_true]; have h1 : firstE p = largeE p := by simp [firstE, h0]
                                                                            exact ⟨h1, by simp [firstL, h1, h0]⟩)
    clear h0
    go_wp2_with (go_at_call 65; refine (pasked _ _ _ _ p true HP.out).mono ?_; rintro e w' ⟨rfl, x1, rfl⟩)
    obtain ⟨t2, t3⟩ := two_set (Nat.ne_of_lt (Nat.lt_succ_self b2)) (c2a x1) (c3a x1) (.slice none 0 0) (.int .i64 (askE p true))
    refine leaves_none (results_cell2 2 3 rfl rfl rfl (loadVar_cell (.inl rfl) t2) (loadVar_cell (.inr rfl) t3)) ?_
    obtain ⟨z, hz⟩ := x1.down hb12
    rw [hz]
    obtain ⟨z1, hz1⟩ := z.set (b := b2) (by have := hB2.out; omega) (.slice none 0 0)
    obtain ⟨z2, hz2⟩ := z1.set (b := b2 + 1) (by have := hB2.out; omega) (.int .i64 (askE p true))
    rw [hz1, hz2]
    exact ⟨_, by rw [hres.out.1], z2, rfl, by rw [hres.out.2]; exact isInts_nil _⟩
  have hb0 : (askE p true != 0) = false := by rw [askE_true]; simp [h0]
  obtain ⟨hv, ht⟩ := largeE_0.1 h0
  have hFE : Hid (firstE p = if (agr p).length = 0 then 72 else 0) := Lib.hid (by simp [firstE, h0])
  clear h0
  go_wp2_with (first | (go_at_call 65; refine (pasked _ _ _ _ p true HP.out).mono ?_; rintro e w' ⟨rfl, x1, rfl⟩) | (go_at_call 67; refine (pagreeing (Later.now x1.w) _ _ _).mono ?_; rintro e w' ⟨bq, rfl, y, rfl, hq1, hq2⟩))
  have hsx : b2 + 1 < x1.w.heap.size := by have h1 := x1.h.size; have h2 := hs2.out; have h3 := hB2.out; omega
  have hW1b : W1.heap.size ≤ b2 := by have h2 := hs1.out; have h3 := hB2.out; omega
  obtain ⟨xx, hxx⟩ := x1.step y.h
  have hby : b2 + 1 < y.w.heap.size := by have := y.h.size; change x1.w.heap.size ≤ _ at this; omega
  have d2a := c2a xx
  have d2b := c2b xx
  have d3a := c3a xx
  have d3b := c3b xx
  rw [← hxx] at d2a d2b d3a d3b
  have hly : ∃ z : Later W1, y.w = z.w := by obtain ⟨z, hz⟩ := xx.down hb2; exact ⟨z, hxx.trans hz⟩
  have hq3 : RdP W1 bq (.slice ap p.panes.length cp) (.slice ao p.opts.length co) (.slice ar p.rules.length cr) y.w := ⟨hly, hq2.lt, hq2.c0, hq2.c1, hq2.c2⟩
  change x1.w.heap.size ≤ bq at hq1
  have hbq : b2 + 1 < bq := by omega
  obtain ⟨w, hw⟩ : ∃ w, y.w = w := ⟨_, rfl⟩
  rw [hw] at hby d2a d2b d3a d3b hly hq3 ⊢
  clear hq2 hw hxx xx y hq1 hsx c2a c2b c3a c3b
  refine (wpIn_wide (n := 0)).1 ?_
  refine' wpIn_rangeL (gf := 124) rfl (enters_of Try.func124 (by kernel_rfl) rfl) rfl (RdP W1 bq (.slice ap p.panes.length cp) (.slice ao p.opts.length co) (.slice ar p.rules.length cr)) (agr p) ?iter
    (fun k A => k = 0 ∧ (∃ z : Later W1, A = z.w) ∧ (A.cell? ⟨b2, 0, none⟩ = some (.slice none 0 0) ∧ A.frozen? ⟨b2, 0, none⟩ = false) ∧ (A.cell? ⟨b2 + 1, 0, none⟩ = some (.int .i64 0) ∧ A.frozen? ⟨b2 + 1, 0, none⟩ = false))
    (fun c A => c = .ret ∧ (∃ z : Later W1, A = z.w) ∧ ∃ v, A.cell? ⟨b2, 0, none⟩ = some v ∧ A.cell? ⟨b2 + 1, 0, none⟩ = some (.int .i64 0) ∧ IsInts A v (nth (agr p) 0) ∧ 0 < (agr p).length) ?hI ?hIx ?hRd ⟨rfl, hly, ⟨d2a, d2b⟩, d3a, d3b⟩ hq3 _ ?assign ?body ?done ?stop
  case assign =>
    intro l v W K hK
    have hS := @Oper.semAt_some
    gi_wp2
    exact hK
  case iter => exact fun W2 hb2 hr2 => iterAgr bq _ _ _ p HP1.out hv hr2
  case hI => exact fun k A B ⟨h1, h2, ⟨h3, h4⟩, h5, h6⟩ he => ⟨h1, he.later (by omega) h2, ⟨(he.cell (p := ⟨b2, 0, none⟩) (by show b2 < _; omega)).trans h3, (he.frozen (p := ⟨b2, 0, none⟩) (by show b2 < _; omega)).trans h4⟩, (he.cell (p := ⟨b2 + 1, 0, none⟩) hby).trans h5, (he.frozen (p := ⟨b2 + 1, 0, none⟩) hby).trans h6⟩
  case hIx => exact fun c A B ⟨h1, h2, v, h3, h4, h5, h6⟩ he => ⟨h1, he.toEqb.later (by omega) h2, v, he.cell h3, he.cell h4, h5.calm he, h6⟩
  case hRd => exact fun A B h he => h.eqb he (by omega) hq3.lt
  case stop =>
    rintro D c A hD ⟨rfl, hl, v, h3, h4, h5, h6⟩ hdf
    refine (wpIn_wide (n := 0)).2 ?_
    go_wp2
    have hcm : Calm W1.heap.size A (A.putObj D (.deferred none)) := Calm.putObj hdf rfl (by omega) _
    refine leaves_mark hdf (results_cell2 2 3 rfl rfl rfl (loadVar_cell (.inl rfl) (hcm.cell h3)) (loadVar_cell (.inr rfl) (hcm.cell h4))) ?_
    obtain ⟨z, hz⟩ := hcm.toEqb.later (Nat.le_refl _) hl
    have h7 := h5.calm hcm
    obtain ⟨z1, hz1⟩ := z.down hb1
    rw [hz, hz1] at h7 ⊢
    have he : firstE p = 0 := by rw [hFE.out, if_neg (by omega)]
    exact ⟨_, by rw [he], z1, rfl, by rw [firstL_0 he]; exact h7⟩
  case done =>
    rintro D A hD ⟨hk0, ⟨z, rfl⟩, ⟨h3, h4⟩, h5, h6⟩ hdf
    go_wp2
    obtain ⟨t2, t3⟩ := two_set (Nat.ne_of_lt (Nat.lt_succ_self b2)) h3 h5 (.slice none 0 0) (.int .i64 72)
    have hdf2 := (heap_two (A := z.w) (b2 := b2) (b3 := b2 + 1) (D := D) (v := .slice none 0 0) (v' := .int .i64 72) (by omega) (by omega)).trans hdf
    have hcm : Calm W1.heap.size _ _ := Calm.putObj hdf2 rfl (by omega) (.deferred none)
    refine leaves_mark hdf2 (results_cell2 2 3 rfl rfl rfl (loadVar_cell (.inl rfl) (hcm.cell t2)) (loadVar_cell (.inr rfl) (hcm.cell t3))) ?_
    obtain ⟨z1, hz1⟩ := z.set (b := b2) hW1b (.slice none 0 0)
    obtain ⟨z2, hz2⟩ := z1.set (b := b2 + 1) (by omega) (.int .i64 72)
    rw [hz1, hz2] at hcm ⊢
    obtain ⟨z3, hz3⟩ := hcm.toEqb.later (Nat.le_refl _) ⟨z2, rfl⟩
    obtain ⟨z4, hz4⟩ := z3.down hb1
    rw [hz3, hz4]
    have he : firstE p = 72 := by rw [hFE.out, if_pos hk0]
    exact ⟨_, by rw [he], z4, rfl, by unfold firstL; rw [if_neg (by rw [he]; decide)]; exact isInts_nil _⟩
  case body =>
    rintro l2 k v A hk ⟨rfl, hl, ⟨h3, h4⟩, h5, h6⟩ hR hvA
    generalize hQ : roundEnd w.heap.size _ _ _ A = Q
    replace hQ := Lib.hid hQ
    have hS := @Oper.semAt_some
    have hF : ∀ f, Fence.wide.fn f = True := fun _ => rfl
    have hD : Fence.wide.depth = none := rfl
    have hsA : b2 + 1 < A.heap.size := by have := hR.lt; omega
    replace h3 := Later.cell (W := A) (by omega) h3
    replace h4 := Later.frozen (W := A) (by omega) h4
    replace h5 := Later.cell (W := A) hsA h5
    replace h6 := Later.frozen (W := A) hsA h6
    have hC := Lib.hid (pcloneI (Later.now A) v (nth (agr p) 0) hvA)
    obtain ⟨av, cv, rfl, hlv, _⟩ := hvA.opened
    clear hvA
    show Code.wpIn _ _ _ _ _ _ (Later.now A).w
    gi_wp2_with (gi_at_call 68; refine (CallsIn.inRound l2 (callsIn_wide.2 hC.out)).mono ?_; rintro e w' ⟨v', rfl, y, rfl, hown⟩; obtain ⟨A', c', rfl⟩ := owns_slice hown)
    rw [← hQ.out]
    obtain ⟨z, rfl⟩ := hl
    obtain ⟨t2, t3⟩ := two_set (Nat.ne_of_lt (Nat.lt_succ_self b2)) (h3 y) (h5 y) (.slice A' (nth (agr p) 0).length c') (.int .i64 0)
    have hown2 := owns_two (u := .slice A' (nth (agr p) 0).length c') (u' := .int .i64 0) hown (b2 := b2) (b3 := b2 + 1) (by omega) hsA
    refine ⟨((Above.below y.h).setCell (p := ⟨b2, 0, none⟩) (by show b2 < _; omega) _).setCell (p := ⟨b2 + 1, 0, none⟩) hby _, rfl, ?_, _, t2, t3, isInts_of_owns hown2 hlv, hk⟩
    obtain ⟨z1, hz1⟩ := (z.up y).set (b := b2) hW1b (.slice A' (nth (agr p) 0).length c')
    obtain ⟨z2, hz2⟩ := z1.set (b := b2 + 1) (by omega) (.int .i64 0)
    exact ⟨z2, by rw [← hz2, ← hz1]; rfl⟩
end Go.Proofs.Ytmpkbolabdmkkaa
