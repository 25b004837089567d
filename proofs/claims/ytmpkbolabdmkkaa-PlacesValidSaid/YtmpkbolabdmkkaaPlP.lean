/- CONTRACTS of places' fillings: the function, and the iterator that it hands back. -/
import Derived.Test.YtmpkbolabdmkkaaPlM
import Derived.Test.YtmpkbolabdmkkaaRefI
import Derived.Test.YtmpkbolabdmkkaaItr
import Derived.Test.YtmpkbolabdmkkaaFil5
namespace Go.Proofs.Ytmpkbolabdmkkaa
open Go.RowKit

/-- HOW fillings ENDS: it hands back the iterator, with the problem's box and the list's -/
def EndsFills (W : World) (v0 v1 v2 vf : Value) (e : Ending) (w' : World) : Prop :=
  ∃ bp bf, e = .returned (.func (.func 146) #[] #[.pointer (some ⟨bf, 0, none⟩), .pointer (some ⟨bp, 0, none⟩)]) ∧ ∃ y : Later W, w' = y.w ∧ W.heap.size ≤ bp ∧ W.heap.size ≤ bf ∧ RdP W bp v0 v1 v2 y.w ∧ bf < y.w.heap.size ∧ y.w.cell? ⟨bf, 0, none⟩ = some vf

set_option maxRecDepth 100000 in
set_option maxHeartbeats 1000000 in
theorem pfillings {W : World} (x : Later W) (v0 v1 v2 vf : Value) (f : List Int) (hf : IsInts W vf f) : Calls Try.prog 110 #[.agg #[v0, v1, v2], vf] x.w (EndsFills W v0 v1 v2 vf) := by
  obtain ⟨af, cf, rfl, _, _⟩ := hf.opened
  clear hf
  go_enter Try.func110, Try.ntmps110
  go_wp2
  go_ret
  obtain ⟨y, hy⟩ := x.alloc (.cells #[v0, v1, v2] 26)
  obtain ⟨z, hz⟩ := y.alloc (.cells #[.slice af f.length cf] 22)
  refine ⟨_, _, rfl, z, ?_, ?_⟩
  · rw [← hz, ← hy]
  have hs1 : y.w.heap.size = x.w.heap.size + 1 := by rw [← hy]; simp
  have hb1 : Below y.w.heap.size y.w z.w := by rw [← hz]; exact below_alloc1 _ _
  have hc : ∀ i, y.w.cell? ⟨x.w.heap.size, i, none⟩ = #[v0, v1, v2][i]? := fun i => by rw [← hy]; exact World.cell?_alloc_at _ 26 _ i rfl
  have hc' : ∀ i, z.w.cell? ⟨x.w.heap.size, i, none⟩ = #[v0, v1, v2][i]? := fun i => (hb1.cell (p := ⟨x.w.heap.size, i, none⟩) (by show x.w.heap.size < _; rw [hs1]; omega)).trans (hc i)
  have hs2 : z.w.heap.size = x.w.heap.size + 2 := by rw [← hz, ← hy]; simp
  have := x.h.size
  refine ⟨this, by omega, ⟨⟨z, rfl⟩, by omega, hc' 0, hc' 1, hc' 2⟩, by omega, ?_⟩
  rw [← hz]; exact World.cell?_alloc_at _ 22 _ 0 hs1.symm

set_option maxRecDepth 100000 in
set_option maxHeartbeats 1000000 in
theorem iterFills {Wb W : World} (bp bf : Nat) (v0 v1 v2 vf : Value) (p : Prob) (r : Nat) (hp : IsProb Wb v0 v1 v2 p) (hv : validP p = true) (hr : r < total p)
    (hrd : RdP Wb bp v0 v1 v2 W) (hf : IsInts W vf (fill p r)) (hb : bf < W.heap.size) (hc : W.cell? ⟨bf, 0, none⟩ = some vf) :
    IterL 146 #[.pointer (some ⟨bf, 0, none⟩), .pointer (some ⟨bp, 0, none⟩)] (RdP Wb bp v0 v1 v2) ((fills p).drop r) W := by
  intro l J Jx hJ hJx hY h0
  rw [callsIn_wide]
  have hWb : Wb.heap.size ≤ W.heap.size := by obtain ⟨y, rfl⟩ := hrd.later; exact y.h.size
  have hcl := pcloneI (Later.now W) vf (fill p r) hf
  obtain ⟨af, cf, rfl, _, _⟩ := hf.opened
  show Calls Try.prog 146 #[.func (.yield l) #[] #[], .pointer (some ⟨bf, 0, none⟩), .pointer (some ⟨bp, 0, none⟩)] (Later.now W).w _
  have hc' : (Later.now W).w.cell? ⟨bf, 0, none⟩ = some (.slice af (fill p r).length cf) := hc
  have hb' : bf < (Later.now W).w.heap.size := hb
  go_enter Try.func146, Try.ntmps146
  go_upto_region 1 with (go_at_call 68; refine hcl.mono ?_; rintro e w' ⟨v, rfl, y, rfl, hown⟩; obtain ⟨A', c', rfl⟩ := owns_slice hown)
  have h64 : p.opts.length ≤ 17592186044416 := by have := valid_pane64 hv; rw [← valid_len hv] at this; omega
  have hmono : ∀ (y : Later W) (C : World), Eqb W.heap.size y.w C → Eqb W.heap.size W C := fun y C he => ⟨he.os.trans y.h.os, he.tape.trans y.h.tape, he.output.trans y.h.output, he.size, fun k hk => (he.block k hk).trans (y.h.block k hk)⟩
  have hyW : Eqb W.heap.size W y.w := Eqb.below y.h (Nat.le_refl _)
  have hbp : bp < W.heap.size := hrd.lt
  have hlen : ((fills p).drop r).length = total p - r := by rw [List.length_drop, fills_len]
  have hnth : ∀ k, r + k < total p → nth ((fills p).drop r) k = fill p (r + k) := fun k hk => by rw [nth_drop, nth_fills hk]
  have hflen : ∀ k, (fill p k).length = p.opts.length := fill_len p
  have hJ1 : J 0 y.w := hJ _ _ _ h0 hyW
  have hR1 : RdP Wb bp v0 v1 v2 y.w := hrd.eqb hyW hWb hbp
  rw [hflen] at hown ⊢
  replace hlen := Lib.hid hlen
  replace hnth := Lib.hid hnth
  replace hflen := Lib.hid hflen
  replace hJ := Lib.hid hJ
  replace hJx := Lib.hid hJx
  replace hY := Lib.hid hY
  replace hmono := Lib.hid hmono
  clear hyW hcl hf hc hc' hb' h0 hrd
  go_loopg [5] (total p - r) (fun g i wr => ∃ k : Nat, r + k < total p ∧ g = total p - r - k ∧ W.heap.size ≤ wr.heap.size ∧ J k wr ∧ RdP Wb bp v0 v1 v2 wr ∧ wr.ownsRow W.heap.size 3 1 (.slice A' p.opts.length c') p.opts.length ((fill p (r + k)).map (Value.int .i64)))
  case atStart => exact ⟨0, by omega, by omega, y.h.size, hJ1, hR1, hown⟩
  case round =>
    clear hJ1 hR1 hown
    obtain ⟨k, hk, hg, hsW, hJk, hR, hown⟩ := hrel
    have hI : IsInts wr (.slice A' p.opts.length c') (nth ((fills p).drop r) k) := by
      rw [hnth.out k hk]
      have := isInts_of_owns hown h64
      exact this
    obtain ⟨fn, tmps, assign, body, hy, hRound⟩ := hY.out k _ wr (by rw [hlen.out]; omega) hJk hR hI
    go_upto_region 1 with (fail)
    refine (wpIn_wide (n := 0)).1 ?_
    have hF : ∀ f, Fence.wide.fn f = True := fun _ => rfl
    have hD : Fence.wide.depth = none := rfl
    gi_wp2
    refine hRound.mono ?_
    rintro e A1 (⟨rfl, hJ1, hR1, hA1⟩ | ⟨rfl, hx1, _⟩)
    case inr =>
      gi_wp2
      go_wp2
      refine bodyPost_ret (results_none rfl _ _ _) rfl ?_
      exact ⟨⟨_, rfl⟩, .inr hx1⟩

    gi_wp2
    clear hF hD hy hRound hI
    obtain ⟨Wc, x, rfl, hsz, heq⟩ := cut_at A1 (Nat.le_trans hsW hA1.size)
    have hRc := hR1.eqb (heq (Later.now Wc)) hWb hbp
    have hbc : Below Wb.heap.size Wb Wc := by obtain ⟨y, hy⟩ := hRc.later; have h := y.h; rw [← hy] at h; exact h
    have hbpc : bp < Wc.heap.size := by rw [hsz]; exact hbp
    have p0 := Later.cell hbpc hRc.c0
    have p1 := Later.cell hbpc hRc.c1
    have p2 := Later.cell hbpc hRc.c2
    have s1 := Later.size hbpc
    replace hown := owns_above hown hA1
    rw [← hsz] at hown
    obtain ⟨ao, co, rfl, lo, hopts⟩ := (hp.opts.below hbc).opened
    obtain ⟨f, hf⟩ : ∃ f, f = fill p (r + k) := ⟨_, rfl⟩
    have hfl : f.length = p.opts.length := by rw [hf, hflen.out]
    have hnx := fill_next hv hk
    rw [← hf] at hown hnx
    have hfill : ∀ i, i < p.opts.length → 0 ≤ nth f i ∧ nth f i < (nth p.opts i).length := fun i hi => by have := fill_ok hv (r + k) i (by rw [hflen.out]; exact hi); rw [hf]; exact this
    have hlast := Lib.hid (fun h => hnx.symm.trans (@nextF_last' p f h))
    have hstop := Lib.hid (fun j hj hlt h => hnx.symm.trans (@nextF_stop' p f j hj hlt h))
    replace hJ1 := Lib.hid (fun y : Later Wc => hJ.out _ _ _ hJ1 (heq y))
    replace hR1 := Lib.hid (fun y : Later Wc => hR1.eqb (heq y) hWb hbp)
    replace hfill := Lib.hid hfill
    replace hfl := Lib.hid hfl
    clear hf hnx heq hRc hA1 hR hJk
    go_wp2
    go_loopw [5] (fun i wr => ∃ j : Nat, j ≤ p.opts.length ∧ i = .int .i64 ((j : Int) - 1) ∧ (∃ y : Later Wc, wr = y.w ∧ y.w.ownsRow Wc.heap.size 3 1 (.slice A' p.opts.length c') p.opts.length ((f.take j ++ List.replicate (f.length - j) 0).map (Value.int .i64))) ∧ (∀ i, j ≤ i → i < f.length → (dim p i : Int) ≤ nth f i + 1)) (fun i _ => (intOf i + 1).toNat)
    case atStart => exact ⟨p.opts.length, Nat.le_refl _, by go_num, ⟨x, rfl, by rw [hfl.out, Nat.sub_self, ← hfl.out, List.take_length, hfl.out]; simpa using hown⟩, by rw [hfl.out]; omega⟩
    case round =>
      clear hown
      obtain ⟨j, hj, rfl, ⟨x, rfl, hown⟩, hno⟩ := hrel
      replace hno := Lib.hid hno
      rcases Nat.eq_zero_or_pos j with rfl | hpos
      · go_wp2
        refine wp_region_later x (by kernel_rfl) (by kernel_rfl) ?_
        repeat (go_big_quiet_step (fail))
        refine wpQuiet_nil ?_
        rintro _ ⟨x, rfl⟩
        go_wp2
        refine bodyPost_ret (results_none rfl _ _ _) rfl ?_
        have hr1 := hlast.out (fun i hi => hno.out i (Nat.zero_le _) hi)
        have hend : k + 1 = ((fills p).drop r).length := by
          rw [hlen.out]
          by_cases hc : r + k + 1 < total p
          · rw [if_pos hc] at hr1; cases hr1
          · omega
        exact ⟨⟨_, rfl⟩, .inl (hend ▸ hJ1.out x)⟩
      · obtain ⟨j, rfl⟩ : ∃ i, j = i + 1 := ⟨j - 1, by omega⟩
        have hk' : j < p.opts.length := by omega
        have hkf : j < f.length := by rw [hfl.out]; exact hk'
        obtain ⟨g, c2, hv, _, _⟩ := owns_head hown (by omega)
        cases hv
        have ek : ((j + 1 : Nat) : Int) - 1 = j := by omega
        rw [ek]
        clear ek
        have hval : ((f.take (j + 1) ++ List.replicate (f.length - (j + 1)) 0).map (Value.int .i64))[j]? = some (.int .i64 (nth f j)) := by
          rw [nth_eq f j hkf]; simp [List.getElem?_append, Nat.min_eq_left (show j + 1 ≤ f.length by omega)]
        have hset0 := Lib.hid (set_zero f j hkf)
        have hset1 := Lib.hid (set_next f j hkf)
        obtain ⟨d0, _, d2, _⟩ := owns_at x hown j hk'
        rw [hval] at d0
        replace d0 := Since.cells (Later.cell d2 d0)
        replace d2 := Since.sizes (Later.size d2)
        replace hval := Lib.hid hval
        have hfk := hfill.out j hk'
        obtain ⟨bo, oo, rfl, hbo, uo, co0, hO⟩ := hopts.out j hk'
        obtain ⟨av, cv, rfl, lv, _⟩ := hO.opened
        cases hA : (nth f j == ((nth p.opts j).length : Int) - 1)
        · go_wp2
          refine wp_region_since x (by kernel_rfl) (by kernel_rfl) ?_
          repeat (go_big_quiet_step (fail))
          refine wpQuiet_nil ?_
          rintro _ ⟨⟨y, hy⟩, rfl⟩
          replace hown := owns_later hown hy
          clear d0 d2
          obtain ⟨d0, d1, d2, d3⟩ := owns_at y hown j hk'
          rw [hval.out] at d0
          obtain ⟨z, hz, hown', _⟩ := d3 (.int .i64 (nth f j + 1))
          clear d3
          go_wp2
          rw [hset1.out] at hown'
          have hr1 := hstop.out j hkf (by unfold dim; have := ne_beqI hA; omega) hno.out
          have hc : r + k + 1 < total p := by
            by_cases hc : r + k + 1 < total p
            · exact hc
            · rw [if_neg hc] at hr1; cases hr1
          rw [if_pos hc, Option.some.injEq] at hr1
          rw [← hr1] at hown'
          rw [hsz] at hown'
          go_roundg (total p - r - (k + 1))
          case measure => omega
          case rel => exact ⟨k + 1, by omega, rfl, hsz ▸ z.h.size, hJ1.out z, hR1.out z, hown'⟩
        · go_wp2
          refine wp_region_since x (by kernel_rfl) (by kernel_rfl) ?_
          repeat (go_big_quiet_step (fail))
          refine wpQuiet_nil ?_
          rintro _ ⟨⟨y, hy⟩, rfl⟩
          replace hown := owns_later hown hy
          clear d0 d2
          obtain ⟨d0, d1, d2, d3⟩ := owns_at y hown j hk'
          rw [hval.out] at d0
          obtain ⟨z, hz, hown', _⟩ := d3 (.int .i64 0)
          clear d3
          go_wp2
          go_roundw
          case rel => exact ⟨j, by omega, by go_num, ⟨z, rfl, by rw [← hset0.out]; exact hown'⟩, all_from hno.out (by unfold dim; have := eq_beqI hA; omega)⟩
          case measure => simp [intOf]
end Go.Proofs.Ytmpkbolabdmkkaa
