/- CONTRACTS of the reference's large, all, Agreeing. -/
import Derived.Test.YtmpkbolabdmkkaaRefI
import Derived.Test.YtmpkbolabdmkkaaFil2
namespace Go.Proofs.Ytmpkbolabdmkkaa
open Go.RowKit

theorem ends_ints_on {P : Program} {f : FuncId} {args : Array Value} {W : World} (x : Later W) {l : List Int} (h : Calls P f args x.w (EndsInts x.w l)) :
    Calls P f args x.w fun e w' => ∃ v, e = .returned v ∧ ∃ y : Later W, w' = y.w ∧ Below x.w.heap.size x.w y.w ∧ IsInts y.w v l :=
  h.mono fun _ _ ⟨v, he, z, hz, hI⟩ => ⟨v, he, x.up z, hz, z.h, hI⟩
theorem ends_next_on {P : Program} {f : FuncId} {args : Array Value} {W : World} (x : Later W) {l : List Int} {r : Option (List Int)} (hr : r = some l) (h : Calls P f args x.w (EndsNext x.w r)) :
    Calls P f args x.w fun e w' => ∃ v, e = .returned (.tuple #[v, .bool true]) ∧ ∃ y : Later W, w' = y.w ∧ Below x.w.heap.size x.w y.w ∧ y.w.ownsRow x.w.heap.size 3 1 v l.length (l.map (Value.int .i64)) := by
  subst hr
  exact h.mono fun _ _ ⟨v, he, z, hz, hI⟩ => ⟨v, he, x.up z, hz, z.h, hI⟩
theorem ends_none_on {P : Program} {f : FuncId} {args : Array Value} {W : World} (x : Later W) {r : Option (List Int)} (hr : r = none) (h : Calls P f args x.w (EndsNext x.w r)) :
    Calls P f args x.w fun e w' => e = .returned (.tuple #[.slice none 0 0, .bool false]) ∧ ∃ y : Later W, w' = y.w ∧ Below x.w.heap.size x.w y.w := by
  subst hr
  exact calls_on x h

set_option maxRecDepth 100000 in
set_option maxHeartbeats 1000000 in
theorem rlarge {W : World} (x : Later W) (v0 v1 v2 : Value) (p : Prob) (hp : IsProb W v0 v1 v2 p) :
    Calls Try.prog 82 #[.agg #[v0, v1, v2]] x.w (Ends W (.int .i64 (largeE p))) := by
  go_enter Try.func82, Try.ntmps82
  go_upto_region 1 with (fail)
  obtain ⟨W1, x1, e1, hb1, s1, p0, p1, p2⟩ := enter3 x v0 v1 v2 26
  rw [e1]; clear e1
  have HP := Lib.hid (hp.below hb1)
  obtain ⟨ap, cp, rfl, lp, _⟩ := hp.panes.opened
  obtain ⟨ao, co, rfl, lo, _⟩ := hp.opts.opened
  obtain ⟨ar, cr, rfl, lr, _⟩ := hp.rules.opened
  clear hp
  cases hv : validP p
  · go_wp2_with (go_at_call 27; refine (rValid x1 _ _ _ p HP.out).mono ?_; rintro e w' ⟨rfl, x1, rfl⟩)
    go_ret; exact ⟨ret_int (by simp [largeE, hv]), x1.down hb1⟩
  · have h300 := Lib.hid (fun i (hi : i < p.opts.length) => Nat.le_trans (valid_opts hv hi).2 (show 256 ≤ 300 by decide))
    have hgt := Lib.hid (rspace_gt hv)
    cases hA : decide (65536 < rspace p)
    all_goals
      go_wp2_with (first | (go_at_call 27; refine (rValid x1 _ _ _ p HP.out).mono ?_; rintro e w' ⟨rfl, x1, rfl⟩) | (go_at_call 70; refine (rspace_walk x1 _ _ _ p HP.out h300.out).mono ?_; rintro e w' ⟨rfl, x1, rfl⟩))
      go_ret; exact ⟨ret_int (by simp only [decide_eq_true_eq, decide_eq_false_iff_not, hgt.out] at hA; simp [largeE, hv, hA]), x1.down hb1⟩

/-- HOW A CALL ENDS that hands back lists of numbers -/
def EndsIntss (W : World) (l : List (List Int)) (e : Ending) (w' : World) : Prop := ∃ v, e = .returned v ∧ ∃ y : Later W, w' = y.w ∧ IsIntssF W.heap.size y.w v l


/-- 'make([]int, n)' -/
theorem wpList_makeInts {ops : Array Oper} {rest : List Oper} {o : Oper} {a : Act} {Q : Exit → Act → World → Prop} {W : World} (y : Later W) (hgd : o.guard = none) (l c : Operand) (ho : o.op = .makeSlice 22 l c) (n : Nat) (hl : a.eval l = .int .i64 n) (hc : a.eval c = .int .i64 n) (hn : n ≤ 17592186044416)
    (h : ∀ (z : Later W), z.w.ownsRow W.heap.size 3 1 (.slice (some ⟨y.w.heap.size, 0, none⟩) n n) n ((List.replicate n 0).map (Value.int .i64)) → Below y.w.heap.size y.w z.w → wpList Try.prog ops Q rest (a.put o.dst (.slice (some ⟨y.w.heap.size, 0, none⟩) n n)) z.w) :
    wpList Try.prog ops Q (o :: rest) a y.w := by
  obtain ⟨i0, hi, hz0, hz1, hz2⟩ := info_parts Try.info3
  have hb := y.h.size
  refine wpList_make_full y.w hgd l c 22 ho W.heap.size 3 i0 _ 1 Try.underlying22 hi hz0 hz1 .i64 .i64 _ _ n hl hc rfl rfl (by rw [hz2]; omega) (by unfold maxLen; omega) y.h.size fun w' h1 h2 => ?_
  obtain ⟨z, rfl⟩ := y.grown h2 (fun k hk => by cases hk)
  refine h z ?_ ⟨h2.os, h2.tape, h2.output, h2.size, fun k hk => h2.block k hk (by simp)⟩
  have e : (madeCells (Value.int .i64 0).cells (n * 1)).toList = (List.replicate n (0 : Int)).map (Value.int .i64) := by
    rw [Nat.mul_one, List.map_replicate]; exact toList_madeCells_one _ _
  rw [← e]; exact h1

set_option maxRecDepth 100000 in
set_option maxHeartbeats 1000000 in
theorem rall {W : World} (x : Later W) (v0 v1 v2 : Value) (p : Prob) (hp : IsProb W v0 v1 v2 p) (hv : validP p = true) (ht : total p ≤ 65536) :
    Calls Try.prog 125 #[.agg #[v0, v1, v2]] x.w (EndsIntss W (fills p)) := by
  have hlen := Lib.hid (valid_len hv)
  have hpos := total_pos hv
  have hnext := Lib.hid (fun r (hr : r < total p) => fill_next hv hr)
  have hok := Lib.hid (fun r => fill_ok hv r)
  have h64 := valid_pane64 hv
  clear hv
  go_enter Try.func125, Try.ntmps125
  go_upto_region 1 with (fail)
  obtain ⟨W1, x1, e1, hb1, s1, p0, p1, p2⟩ := enter3 x v0 v1 v2 26
  rw [e1]; clear e1
  have HP := Lib.hid (hp.below hb1)
  obtain ⟨ap, cp, rfl, lp, _⟩ := hp.panes.opened
  obtain ⟨ao, co, rfl, lo, _⟩ := hp.opts.opened
  obtain ⟨ar, cr, rfl, lr, _⟩ := hp.rules.opened
  clear hp
  go_wp2_with (at_make; refine wpList_makeInts x1 rfl _ _ rfl p.panes.length (by rfl) (by rfl) (by omega) ?_; intro y hown hy)
  obtain ⟨z, hz, hout, hzb⟩ := OwnIntss.one y (.slice (some ⟨x1.w.heap.size, 0, none⟩) p.panes.length p.panes.length) (fill p 0) (B := W1.heap.size) (by rw [fill_0, hlen.out]; exact owns_off hown (by omega) (Nat.le_refl _) (fun k hk => by cases hk))
  rw [hz]
  have hf0 : IsInts z.w (.slice (some ⟨x1.w.heap.size, 0, none⟩) p.panes.length p.panes.length) (fill p 0) := by rw [fill_0, hlen.out]; exact (isInts_of_owns hown (by omega)).below hzb
  go_loopg [3, 4] (total p - 1) (fun g vf vo wr => ∃ t : Nat, t < total p ∧ g = total p - 1 - t ∧ ∃ y : Later W1, wr = y.w ∧ OwnIntss y W1.heap.size vo ((List.range (t + 1)).map (fill p)) ∧ IsInts y.w vf (fill p t))
  case atStart => exact ⟨0, by omega, rfl, z, rfl, hout, hf0⟩
  case round =>
    clear hz hout hf0 hown hy hzb
    obtain ⟨t, htl, hg, x, rfl, hout, hf⟩ := hrel
    replace hg := Lib.hid hg
    have HF := Lib.hid hf
    obtain ⟨af, cf, rfl, lf, _⟩ := hf.opened
    have hC := Lib.hid (rafter (Later.now x.w) _ _ _ _ p (fill p t) (HP.out.below x.h) HF.out (fill_len p t) (hok.out t))
    have hnx := Lib.hid (hnext.out t htl)
    by_cases hlast : t + 1 < total p
    · have hnx' : Hid (nextF p (fill p t) = some (fill p (t + 1))) := Lib.hid (by rw [hnx.out, if_pos hlast])
      have hblk := Lib.hid (fun k hk => (hout.block k hk).2)
      have hl2 : (fill p (t + 1)).length ≤ 17592186044416 := by rw [fill_len, hlen.out]; omega
      go_wp2_with (first | (go_at_call 156; refine (ends_next_on x hnx'.out hC.out).mono ?_; rintro e w' ⟨v, rfl, y, rfl, hy, hown⟩; replace hout := hout.later hy; obtain ⟨ag, cg, rfl⟩ := owns_slice hown) | (at_builtin; refine wpList_appL y rfl _ _ rfl _ _ (by rfl) hout _ (fill p (t + 1)) (owns_off hown hl2 x.h.size hblk.out) (by rfl) (by simp; omega) ?_; intro v' z hout' hf'))
      go_roundg (total p - 1 - (t + 1))
      case measure => rw [hg.out]; omega
      case rel => exact ⟨t + 1, hlast, rfl, z, rfl, by rw [List.range_succ, List.map_append]; exact hout', hf'⟩
    · have hnx' : Hid (nextF p (fill p t) = none) := Lib.hid (by rw [hnx.out, if_neg hlast])
      go_wp2_with (first | (go_at_call 156; refine (ends_none_on x hnx'.out hC.out).mono ?_; rintro e w' ⟨rfl, y, rfl, hy⟩; replace hout := hout.later hy))
      go_ret
      have et : t + 1 = total p := by omega
      rw [et] at hout
      obtain ⟨z, hz⟩ := y.down hb1
      refine ⟨_, rfl, z, hz, hz ▸ ?_⟩
      exact (hout.is (by simp; omega) (Nat.le_refl _)).mono hb1.size
end Go.Proofs.Ytmpkbolabdmkkaa
