/- CONTRACTS of the reference's Witness, uses, Where. -/
import Derived.Test.YtmpkbolabdmkkaaZd
import Derived.Test.YtmpkbolabdmkkaaZa
import Derived.Test.YtmpkbolabdmkkaaZb
namespace Go.Proofs.Ytmpkbolabdmkkaa
open Go.RowKit

set_option maxRecDepth 100000 in
set_option maxHeartbeats 1000000 in
theorem rWitness {W : World} (x : Later W) (v0 v1 v2 : Value) (p : Prob) (pane o : Int) (hp : IsProb W v0 v1 v2 p) :
    Calls Try.prog 17 #[.agg #[v0, v1, v2], .int .i64 pane, .int .i64 o] x.w (EndsIntsE W (witL p pane o) (witE p pane o)) := by
  have hnil : ∀ {B : World}, witE p pane o ≠ 0 → ∀ w : World, IsInts w (.slice none 0 0) (witL p pane o) := fun h w => by
    unfold witL; rw [if_neg h]; exact isInts_of_owns (l := []) (World.ownsRow_nil _ w.heap.size 3 1) (by simp)
  replace hnil := Lib.hid (@hnil W)
  go_enter Try.func17, Try.ntmps17
  go_upto_region 1 with (fail)
  obtain ⟨W1, x1, e1, hb1, s1, p0, p1, p2⟩ := enter3 x v0 v1 v2 26
  rw [e1]; clear e1
  have HP := Lib.hid (hp.below hb1)
  obtain ⟨ap, cp, rfl, lp, _⟩ := hp.panes.opened
  obtain ⟨ao, co, rfl, lo, _⟩ := hp.opts.opened
  obtain ⟨ar, cr, rfl, lr, _⟩ := hp.rules.opened
  clear hp
  cases hv : validP p
  · have hE : Hid (witE p pane o = 70) := Lib.hid (by simp [witE, hv])
    go_wp2_with (go_at_call 27; refine (rValid x1 _ _ _ p HP.out).mono ?_; rintro e w' ⟨rfl, x1, rfl⟩)
    go_ret2
    obtain ⟨z, hz⟩ := x1.down hb1
    exact ⟨_, by rw [hE.out]; rfl, z, hz, hnil.out (by rw [hE.out]; decide) _⟩
  have hlen := Lib.hid (valid_len hv)
  cases hth : thereB p pane o
  · have hE : Hid (witE p pane o = 1) := Lib.hid (by simp [witE, hv, hth])
    go_wp2_with (first | (go_at_call 27; refine (rValid x1 _ _ _ p HP.out).mono ?_; rintro e w' ⟨rfl, x1, rfl⟩) | (go_at_call 69; refine (rthere x1 _ _ _ p pane o HP.out hlen.out).mono ?_; rintro e w' ⟨rfl, x1, rfl⟩))
    go_ret2
    obtain ⟨z, hz⟩ := x1.down hb1
    exact ⟨_, by rw [hE.out]; rfl, z, hz, hnil.out (by rw [hE.out]; decide) _⟩
  have h300 := Lib.hid (fun i (hi : i < p.opts.length) => Nat.le_trans (valid_opts hv hi).2 (show 256 ≤ 300 by decide))
  have hgt := rspace_gt hv
  by_cases ht : 65536 < total p
  · have hA : decide (65536 < rspace p) = true := by simpa [hgt] using ht
    have hE : Hid (witE p pane o = 2) := Lib.hid (by simp [witE, hv, hth, ht])
    clear hgt ht
    go_wp2_with (first | (go_at_call 27; refine (rValid x1 _ _ _ p HP.out).mono ?_; rintro e w' ⟨rfl, x1, rfl⟩) | (go_at_call 69; refine (rthere x1 _ _ _ p pane o HP.out hlen.out).mono ?_; rintro e w' ⟨rfl, x1, rfl⟩) | (go_at_call 70; refine (rspace_walk x1 _ _ _ p HP.out h300.out).mono ?_; rintro e w' ⟨rfl, x1, rfl⟩))
    go_ret2
    obtain ⟨z, hz⟩ := x1.down hb1
    exact ⟨_, by rw [hE.out]; rfl, z, hz, hnil.out (by rw [hE.out]; decide) _⟩
  have hA : decide (65536 < rspace p) = false := by simpa [hgt] using ht
  have hE : Hid (witE p pane o = if ((agr p).find? (hasB pane o)).isSome then 0 else 3) := Lib.hid (by simp [witE, hv, hth, ht])
  have HV := Lib.hid hv
  have HT : Hid (total p ≤ 65536) := Lib.hid (by omega)
  have hpane : 0 ≤ pane ∧ pane.toNat < p.opts.length := by
    have h1 := hth; unfold thereB at h1; rw [Bool.and_eq_true] at h1
    have := wi_iff.1 h1.1; have := hlen.out; omega
  have hmem : Hid (∀ g, g ∈ agr p → g.length = p.opts.length) := Lib.hid (fun g hg => (agr_mem hv hg).2.1)
  have hfnd := Lib.hid (fun k => @find_at (agr p) (hasB pane o) k)
  have hnon := Lib.hid (@find_none (agr p) (hasB pane o))
  clear hgt ht
  go_wp2_with (first | (go_at_call 27; refine (rValid x1 _ _ _ p HP.out).mono ?_; rintro e w' ⟨rfl, x1, rfl⟩) | (go_at_call 69; refine (rthere x1 _ _ _ p pane o HP.out hlen.out).mono ?_; rintro e w' ⟨rfl, x1, rfl⟩) | (go_at_call 70; refine (rspace_walk x1 _ _ _ p HP.out h300.out).mono ?_; rintro e w' ⟨rfl, x1, rfl⟩) | (go_at_call 71; refine (rAgreeing x1 _ _ _ p HP.out HV.out HT.out).mono ?_; rintro e w' ⟨v, rfl, y, rfl, hl⟩; obtain ⟨W2, hW2, hb2⟩ : ∃ W2, y.w = W2 ∧ Below W1.heap.size W1 W2 := ⟨_, rfl, y.h⟩; rw [hW2] at hl ⊢; clear hW2; obtain ⟨al, cl, rfl, ll, hll⟩ := hl.is.opened; clear hl))
  go_loopw [9] (fun i wr => ∃ k : Nat, k ≤ (agr p).length ∧ i = .int .i64 k ∧ (∃ y : Later W2, wr = y.w) ∧ (∀ i, i < k → hasB pane o (nth (agr p) i) = false)) (fun i _ => (agr p).length - (intOf i).toNat)
  case atStart => exact ⟨0, Nat.zero_le _, rfl, ⟨Later.now W2, rfl⟩, by omega⟩
  case round =>
    obtain ⟨k, hk, rfl, ⟨x, rfl⟩, hno⟩ := hrel
    replace hno := Lib.hid hno
    by_cases hlt : k < (agr p).length
    · obtain ⟨b, ob, rfl, hb, u, c0, hu⟩ := hll.out k hlt
      have HU := Lib.hid hu
      have hpl : pane.toNat < (nth (agr p) k).length := by rw [hmem.out _ (nth_mem hlt)]; exact hpane.2
      obtain ⟨au, cu, rfl, _, hu'⟩ := hu.opened
      obtain ⟨b2, o2, rfl, hb2', d0⟩ := hu'.out _ hpl
      clear hu hu'
      cases hA : nth (nth (agr p) k) pane.toNat == o
      · go_wp2
        go_roundw
        case rel => exact ⟨k + 1, by omega, by go_num, ⟨x, rfl⟩, all_step hno.out hA⟩
        case measure => simp [intOf]; omega
      · go_wp2
        go_ret2
        have hs := hfnd.out k hlt hA hno.out
        have e1 : witE p pane o = 0 := by rw [hE.out, hs]; rfl
        obtain ⟨z, hz⟩ := x.down (hb1.trans (hb2.mono hb1.size))
        refine ⟨_, by rw [e1]; rfl, z, hz, ?_⟩
        have e2 : witL p pane o = nth (agr p) k := by unfold witL; rw [if_pos e1, hs]; rfl
        rw [e2, ← hz]; exact HU.out.below x.h
    · obtain rfl : k = (agr p).length := by omega
      go_wp2
      go_ret2
      have hs := hnon.out hno.out
      have e1 : witE p pane o = 3 := by rw [hE.out, hs]; rfl
      obtain ⟨z, hz⟩ := x.down (hb1.trans (hb2.mono hb1.size))
      exact ⟨_, by rw [e1]; rfl, z, hz, hnil.out (by rw [e1]; decide) _⟩

set_option maxRecDepth 100000 in
set_option maxHeartbeats 1000000 in
theorem ruses {W : World} (x : Later W) (v0 v1 v2 vf : Value) (p : Prob) (f : List Int) (pane piece : Int) (hp : IsProb W v0 v1 v2 p) (hf : IsInts W vf f) (hlen : f.length = p.opts.length) (hfill : ∀ i, i < f.length → 0 ≤ nth f i ∧ nth f i < (nth p.opts i).length) :
    Calls Try.prog 114 #[.agg #[v0, v1, v2], vf, .int .i64 pane, .int .i64 piece] x.w (Ends W (.bool (usesB p f pane piece))) := by
  replace hlen := Lib.hid hlen
  replace hfill := Lib.hid hfill
  have hyes := Lib.hid (fun i => @usesB_yes p f pane piece i)
  have hno' := Lib.hid (@usesB_no p f pane piece)
  go_enter Try.func114, Try.ntmps114
  go_upto_region 1 with (fail)
  obtain ⟨W1, x1, e1, hb1, s1, p0, p1, p2⟩ := enter3 x v0 v1 v2 26
  rw [e1]; clear e1
  obtain ⟨ao, co, rfl, lo, hopts⟩ := (hp.opts.below hb1).opened
  obtain ⟨af, cf, rfl, lf, hfs⟩ := (hf.below hb1).opened
  clear hp hf
  go_wp2
  go_loopw [9] (fun i wr => ∃ k : Nat, k ≤ f.length ∧ i = .int .i64 k ∧ (∃ y : Later W1, wr = y.w) ∧ (∀ i : Nat, i < k → ¬ ((pane < 0 ∨ pane = i) ∧ pieceAt p f i = piece))) (fun i _ => f.length - (intOf i).toNat)
  case atStart => exact ⟨0, Nat.zero_le _, rfl, ⟨x1, rfl⟩, fun i hi => absurd hi (Nat.not_lt_zero _)⟩
  case round =>
    obtain ⟨k, hk, rfl, ⟨x, rfl⟩, hno⟩ := hrel
    have hno : ∀ i : Nat, i < k → ¬ ((pane < 0 ∨ pane = i) ∧ pieceAt p f i = piece) := fun i hi h => by have := hno i hi; simp_all
    replace hno := Lib.hid hno
    by_cases hlt : k < f.length
    · have hko : k < p.opts.length := by have := hlen.out; omega
      have hfk := hfill.out k hlt
      obtain ⟨bf, of, rfl, hbf, c0⟩ := hfs.out k hlt
      obtain ⟨bo, oo, rfl, hbo, uo, co0, hO⟩ := hopts.out k hko
      obtain ⟨av, cv, rfl, lv, hV⟩ := hO.opened
      obtain ⟨bv, ov, rfl, hbv, d0, _, _, _⟩ := hV.out (nth f k).toNat (by omega)
      have e0 : pieceAt p f k = (nth (nth p.opts k) (nth f k).toNat).piece := rfl
      rw [← e0] at d0
      clear hV e0
      have hcase : (decide (pane < 0) = true) ∨ (decide (pane < 0) = false ∧ (pane == (k : Int)) = true) ∨ (decide (pane < 0) = false ∧ (pane == (k : Int)) = false) := by
        cases h1 : decide (pane < 0)
        · cases h2 : pane == (k : Int)
          · exact .inr (.inr ⟨rfl, rfl⟩)
          · exact .inr (.inl ⟨rfl, rfl⟩)
        · exact .inl rfl
      rcases hcase with h1 | ⟨h1, h2⟩ | ⟨h1, h2⟩
      · have hok : Hid (pane < 0 ∨ pane = k) := Lib.hid (.inl (by simpa using h1))
        go_wp2
        refine wp_region_later x (by kernel_rfl) (by kernel_rfl) ?_
        repeat (go_big_quiet_step (fail))
        refine wpQuiet_nil ?_
        rintro _ ⟨x, rfl⟩
        go_wp2
        · go_ret; exact ⟨ret_bool (hyes.out _ hlt hok.out (eq_beqI (by assumption))).symm, x.down hb1⟩
        · go_roundw
          case rel => exact ⟨k + 1, by omega, by go_num, ⟨x, rfl⟩, all_step hno.out (fun h => ne_beqI (by assumption) h.2)⟩
          case measure => simp [intOf]; omega
      · have hok : Hid (pane < 0 ∨ pane = k) := Lib.hid (.inr (by simpa using h2))
        go_wp2
        refine wp_region_later x (by kernel_rfl) (by kernel_rfl) ?_
        repeat (go_big_quiet_step (fail))
        refine wpQuiet_nil ?_
        rintro _ ⟨x, rfl⟩
        go_wp2
        · go_ret; exact ⟨ret_bool (hyes.out _ hlt hok.out (eq_beqI (by assumption))).symm, x.down hb1⟩
        · go_roundw
          case rel => exact ⟨k + 1, by omega, by go_num, ⟨x, rfl⟩, all_step hno.out (fun h => ne_beqI (by assumption) h.2)⟩
          case measure => simp [intOf]; omega
      · have hok : Hid (¬ (pane < 0 ∨ pane = k)) := Lib.hid (fun h => h.elim (fun h => by simp [h] at h1) (fun h => by simp [h] at h2))
        go_wp2
        refine wp_region_later x (by kernel_rfl) (by kernel_rfl) ?_
        repeat (go_big_quiet_step (fail))
        refine wpQuiet_nil ?_
        rintro _ ⟨x, rfl⟩
        go_wp2
        go_roundw
        case rel => exact ⟨k + 1, by omega, by go_num, ⟨x, rfl⟩, all_step hno.out (fun h => hok.out h.1)⟩
        case measure => simp [intOf]; omega
    · obtain rfl : k = f.length := by omega
      go_wp2
      go_ret; exact ⟨ret_bool (hno'.out hno.out).symm, x.down hb1⟩
end Go.Proofs.Ytmpkbolabdmkkaa

/- CONTRACT of the reference's Where. -/
namespace Go.Proofs.Ytmpkbolabdmkkaa
open Go.RowKit

/-- HOW Where ENDS -/
def EndsWhere (W : World) (l : List Int) (b : Bool) (n : Int) (e : Ending) (w' : World) : Prop := ∃ v, e = .returned (.tuple #[v, .bool b, .int .i64 n]) ∧ ∃ y : Later W, w' = y.w ∧ IsInts y.w v l

theorem whereTo_yes {p : Prob} {piece : Int} {k : Nat} (h : foundTo p piece k (agr p).length = true) : whereTo p piece (k + 1) = whereTo p piece k ++ [nth p.panes k] := by
  show (if _ then _ else _) = _; rw [if_pos h]
theorem whereTo_no {p : Prob} {piece : Int} {k : Nat} (h : foundTo p piece k (agr p).length = false) : whereTo p piece (k + 1) = whereTo p piece k := by
  show (if _ then _ else _) = _; rw [if_neg (by simp [h])]

set_option maxRecDepth 100000 in
set_option maxHeartbeats 2000000 in
theorem rWhere {W : World} (x : Later W) (v0 v1 v2 : Value) (p : Prob) (piece : Int) (hp : IsProb W v0 v1 v2 p) :
    Calls Try.prog 57 #[.agg #[v0, v1, v2], .int .i64 piece] x.w (EndsWhere W (whereL p piece) (nowB p piece) (whereE p piece)) := by
  have hnil : whereE p piece ≠ 0 → (∀ w : World, IsInts w (.slice none 0 0) (whereL p piece)) ∧ nowB p piece = false := fun h => by
    refine ⟨fun w => ?_, by simp [nowB, h]⟩
    unfold whereL; rw [if_neg h]; exact isInts_of_owns (l := []) (World.ownsRow_nil _ w.heap.size 3 1) (by simp)
  replace hnil := Lib.hid hnil
  go_enter Try.func57, Try.ntmps57
  go_upto_region 1 with (fail)
  obtain ⟨W1, x1, e1, hb1, s1, p0, p1, p2⟩ := enter3 x v0 v1 v2 26
  rw [e1]; clear e1
  have HP := Lib.hid (hp.below hb1)
  obtain ⟨ap, cp, rfl, lp, _⟩ := hp.panes.opened
  obtain ⟨ao, co, rfl, lo, _⟩ := hp.opts.opened
  obtain ⟨ar, cr, rfl, lr, _⟩ := hp.rules.opened
  clear hp
  cases hv : validP p
  · have hE : Hid (whereE p piece = 70) := Lib.hid (by simp [whereE, hv])
    go_wp2_with (go_at_call 27; refine (rValid x1 _ _ _ p HP.out).mono ?_; rintro e w' ⟨rfl, x1, rfl⟩)
    go_ret3
    obtain ⟨z, hz⟩ := x1.down hb1
    obtain ⟨h1, h2⟩ := hnil.out (by rw [hE.out]; decide)
    exact ⟨_, by rw [hE.out, h2]; rfl, z, hz, h1 _⟩
  cases hth : wi piece 1 65535
  · have hE : Hid (whereE p piece = 1) := Lib.hid (by simp [whereE, hv, hth])
    go_wp2_with (first | (go_at_call 27; refine (rValid x1 _ _ _ p HP.out).mono ?_; rintro e w' ⟨rfl, x1, rfl⟩) | (go_at_call 85; refine (rwithin _ _ _ _).mono ?_; rintro e w' ⟨rfl, rfl⟩))
    go_ret3
    obtain ⟨z, hz⟩ := x1.down hb1
    obtain ⟨h1, h2⟩ := hnil.out (by rw [hE.out]; decide)
    exact ⟨_, by rw [hE.out, h2]; rfl, z, hz, h1 _⟩
  have h300 := Lib.hid (fun i (hi : i < p.opts.length) => Nat.le_trans (valid_opts hv hi).2 (show 256 ≤ 300 by decide))
  have hgt := rspace_gt hv
  by_cases ht : 65536 < total p
  · have hA : decide (65536 < rspace p) = true := by simpa [hgt] using ht
    have hE : Hid (whereE p piece = 2) := Lib.hid (by simp [whereE, hv, hth, ht])
    clear hgt ht
    go_wp2_with (first | (go_at_call 27; refine (rValid x1 _ _ _ p HP.out).mono ?_; rintro e w' ⟨rfl, x1, rfl⟩) | (go_at_call 85; refine (rwithin _ _ _ _).mono ?_; rintro e w' ⟨rfl, rfl⟩) | (go_at_call 70; refine (rspace_walk x1 _ _ _ p HP.out h300.out).mono ?_; rintro e w' ⟨rfl, x1, rfl⟩))
    go_ret3
    obtain ⟨z, hz⟩ := x1.down hb1
    obtain ⟨h1, h2⟩ := hnil.out (by rw [hE.out]; decide)
    exact ⟨_, by rw [hE.out, h2]; rfl, z, hz, h1 _⟩
  have hA : decide (65536 < rspace p) = false := by simpa [hgt] using ht
  have hE : Hid (whereE p piece = 0) := Lib.hid (by simp [whereE, hv, hth, ht])
  have HV := Lib.hid hv
  have HT : Hid (total p ≤ 65536) := Lib.hid (by omega)
  have hmem : Hid (∀ g, g ∈ agr p → g.length = p.opts.length ∧ ∀ i, i < g.length → 0 ≤ nth g i ∧ nth g i < (nth p.opts i).length) := Lib.hid (fun g hg => ⟨(agr_mem hv hg).2.1, (agr_mem hv hg).2.2.1⟩)
  have h64 := valid_pane64 hv
  clear hgt ht
  go_wp2_with (first | (go_at_call 27; refine (rValid x1 _ _ _ p HP.out).mono ?_; rintro e w' ⟨rfl, x1, rfl⟩) | (go_at_call 85; refine (rwithin _ _ _ _).mono ?_; rintro e w' ⟨rfl, rfl⟩) | (go_at_call 70; refine (rspace_walk x1 _ _ _ p HP.out h300.out).mono ?_; rintro e w' ⟨rfl, x1, rfl⟩) | (go_at_call 71; refine (rAgreeing x1 _ _ _ p HP.out HV.out HT.out).mono ?_; rintro e w' ⟨v, rfl, y, rfl, hl⟩; obtain ⟨W2, hW2, hb2⟩ : ∃ W2, y.w = W2 ∧ Below W1.heap.size W1 W2 := ⟨_, rfl, y.h⟩; rw [hW2] at hl ⊢; clear hW2; obtain ⟨al, cl, rfl, ll, hll⟩ := hl.is.opened; clear hl))
  replace p0 := Later.cells hb2 p0
  replace p1 := Later.cells hb2 p1
  replace p2 := Later.cells hb2 p2
  replace s1 := Later.sizes hb2 s1
  replace HP := Lib.hid (HP.out.below hb2)
  obtain ⟨_, _, hpe, _, hpan⟩ := HP.out.panes.opened
  cases hpe
  go_loopw [9, 10, 11, 12] (fun v i _ _ wr => ∃ k : Nat, k ≤ p.panes.length ∧ i = .int .i64 k ∧ ∃ z : Later W2, wr = z.w ∧ z.w.ownsRow W2.heap.size 3 1 v (whereTo p piece k).length ((whereTo p piece k).map (Value.int .i64))) (fun _ i _ _ _ => p.panes.length - (intOf i).toNat)
  case atStart => exact ⟨0, Nat.zero_le _, rfl, Later.now W2, rfl, World.ownsRow_nil _ _ _ _⟩
  case round =>
    obtain ⟨k, hk, rfl, x, rfl, hown⟩ := hrel
    have hwl := whereTo_len p piece k
    by_cases hlt : k < p.panes.length
    · obtain ⟨bp, op, rfl, hbp, cp0⟩ := hpan.out k hlt
      have HY := Lib.hid (@whereTo_yes p piece k)
      have HN := Lib.hid (@whereTo_no p piece k)
      go_wp2
      go_loopw [11, 12] (fun f i wr => ∃ n : Nat, n ≤ (agr p).length ∧ i = .int .i64 n ∧ f = .bool (foundTo p piece k n) ∧ ∃ z : Later W2, wr = z.w ∧ Below x.w.heap.size x.w z.w) (fun _ i _ => (agr p).length - (intOf i).toNat)
      case atStart => exact ⟨0, Nat.zero_le _, rfl, rfl, x, rfl, Below.refl _ _⟩
      case round =>
        obtain ⟨n, hn, rfl, rfl, y, rfl, hyx⟩ := hrel
        by_cases hlt' : n < (agr p).length
        · obtain ⟨b, o, rfl, hb, u, c0, hu⟩ := hll.out n hlt'
          have hm := hmem.out _ (nth_mem hlt')
          have hC := Lib.hid (fun z : Later y.w => ruses z _ _ _ _ p (nth (agr p) n) (k : Int) piece (HP.out.below y.h) (hu.below y.h) hm.1 hm.2)
          obtain ⟨au, cu, rfl, _, _⟩ := hu.opened
          clear hu hm
          have HS : Hid (foundTo p piece k (n + 1) = (foundTo p piece k n || usesB p (nth (agr p) n) k piece)) := Lib.hid rfl
          cases hA : foundTo p piece k n
          · go_wp2
            refine wp_region_since y (by kernel_rfl) (by kernel_rfl) ?_
            repeat (go_big_quiet_step ((go_at_call 114; exact calls_since hC.out)))
            refine wpQuiet_nil ?_
            rintro _ ⟨⟨y, hy⟩, rfl⟩
            go_wp2
            go_roundw
            case rel => exact ⟨n + 1, by omega, by go_num, by rw [HS.out, hA, Bool.false_or], y, rfl, hyx.trans (hy.mono hyx.size)⟩
            case measure => simp [intOf]; omega
          · go_wp2
            refine wp_region_since y (by kernel_rfl) (by kernel_rfl) ?_
            repeat (go_big_quiet_step (fail))
            refine wpQuiet_nil ?_
            rintro _ ⟨⟨y, hy⟩, rfl⟩
            go_wp2
            go_roundw
            case rel => exact ⟨n + 1, by omega, by go_num, by rw [HS.out, hA, Bool.true_or], y, rfl, hyx.trans (hy.mono hyx.size)⟩
            case measure => simp [intOf]; omega
        · obtain rfl : n = (agr p).length := by omega
          replace hown := owns_later hown hyx
          cases hA : foundTo p piece k (agr p).length
          · go_wp2
            go_roundw
            case rel => exact ⟨k + 1, by omega, by go_num, y, rfl, by rw [HN.out hA]; exact hown⟩
            case measure => simp [intOf]; omega
          · go_wp2_with (at_builtin; refine wpList_app1 y 22 3 _ 8 Try.info3 rfl Try.underlying22 rfl _ _ rfl _ _ _ (by rfl) hown _ (by rfl) (by rfl) (by omega) (by omega) ?_; intro v' x hown' hgr)
            go_roundw
            case rel => exact ⟨k + 1, by omega, by go_num, x, rfl, owns_step hown' (HY.out hA)⟩
            case measure => simp [intOf]; omega
    · obtain rfl : k = p.panes.length := by omega
      replace hown := Lib.hid hown
      go_wp2
      go_loopw [8, 13] (fun f i wr => ∃ n : Nat, n ≤ (agr p).length ∧ i = .int .i64 n ∧ f = .bool (nowTo p piece n) ∧ ∃ z : Later W2, wr = z.w ∧ Below x.w.heap.size x.w z.w) (fun _ i _ => (agr p).length - (intOf i).toNat)
      case atStart => exact ⟨0, Nat.zero_le _, rfl, rfl, x, rfl, Below.refl _ _⟩
      case round =>
        obtain ⟨n, hn, rfl, rfl, y, rfl, hyx⟩ := hrel
        by_cases hlt' : n < (agr p).length
        · obtain ⟨b, o, rfl, hb, u, c0, hu⟩ := hll.out n hlt'
          have hm := hmem.out _ (nth_mem hlt')
          have hC := Lib.hid (fun z : Later y.w => ruses z _ _ _ _ p (nth (agr p) n) (-1) piece (HP.out.below y.h) (hu.below y.h) hm.1 hm.2)
          obtain ⟨au, cu, rfl, _, _⟩ := hu.opened
          clear hu hm
          have HS : Hid (nowTo p piece (n + 1) = (nowTo p piece n || !usesB p (nth (agr p) n) (-1) piece)) := Lib.hid rfl
          cases hA : nowTo p piece n
          · go_wp2
            refine wp_region_since y (by kernel_rfl) (by kernel_rfl) ?_
            repeat (go_big_quiet_step ((go_at_call 114; exact calls_since hC.out)))
            refine wpQuiet_nil ?_
            rintro _ ⟨⟨y, hy⟩, rfl⟩
            go_wp2
            go_roundw
            case rel => exact ⟨n + 1, by omega, by go_num, by rw [HS.out, hA, Bool.false_or], y, rfl, hyx.trans (hy.mono hyx.size)⟩
            case measure => simp [intOf]; omega
          · go_wp2
            refine wp_region_since y (by kernel_rfl) (by kernel_rfl) ?_
            repeat (go_big_quiet_step (fail))
            refine wpQuiet_nil ?_
            rintro _ ⟨⟨y, hy⟩, rfl⟩
            go_wp2
            go_roundw
            case rel => exact ⟨n + 1, by omega, by go_num, by rw [HS.out, hA, Bool.true_or], y, rfl, hyx.trans (hy.mono hyx.size)⟩
            case measure => simp [intOf]; omega
        · obtain rfl : n = (agr p).length := by omega
          have hown2 := owns_later hown.out hyx
          go_wp2
          go_ret3
          have e2 : nowB p piece = nowTo p piece (agr p).length := by simp [nowB, hE.out]
          have e3 : whereL p piece = whereTo p piece p.panes.length := by simp [whereL, hE.out]
          obtain ⟨z, hz⟩ := y.down (hb1.trans (hb2.mono hb1.size))
          refine ⟨_, by rw [hE.out, e2]; rfl, z, hz, ?_⟩
          rw [e3, ← hz]; exact isInts_of_owns hown2 (by omega)
end Go.Proofs.Ytmpkbolabdmkkaa

/- CONTRACT of the reference's Forced. -/
namespace Go.Proofs.Ytmpkbolabdmkkaa
open Go.RowKit

set_option maxRecDepth 100000 in
set_option maxHeartbeats 2000000 in
theorem rForced {W : World} (x : Later W) (v0 v1 v2 : Value) (p : Prob) (hp : IsProb W v0 v1 v2 p) :
    Calls Try.prog 56 #[.agg #[v0, v1, v2]] x.w (EndsIntsE W (forcedR p) (firstE p)) := by
  go_enter Try.func56, Try.ntmps56
  go_upto_region 1 with (fail)
  obtain ⟨W1, x1, e1, hb1, s1, p0, p1, p2⟩ := enter3 x v0 v1 v2 26
  rw [e1]; clear e1
  have HP := Lib.hid (hp.below hb1)
  obtain ⟨ap, cp, rfl, lp, _⟩ := hp.panes.opened
  obtain ⟨ao, co, rfl, lo, _⟩ := hp.opts.opened
  obtain ⟨ar, cr, rfl, lr, _⟩ := hp.rules.opened
  clear hp
  by_cases h0 : firstE p = 0
  case neg =>
    have hb0 : (firstE p != 0) = true := by simp [h0]
    have hres : Hid (forcedR p = []) := Lib.hid (by simp [forcedR, h0])
    clear h0
    go_wp2_with (go_at_call 52; refine (rFirst x1 _ _ _ p HP.out).mono ?_; rintro e w' ⟨v, rfl, x1, rfl, hI⟩; obtain ⟨a1, c1, rfl, _, _⟩ := hI)
    go_ret2
    obtain ⟨z, hz⟩ := x1.down hb1
    exact ⟨_, rfl, z, hz, hres.out ▸ isInts_of_owns (l := []) (World.ownsRow_nil _ W1.heap.size 3 1) (by simp)⟩
  have hb0 : (firstE p != 0) = false := by simp [h0]
  obtain ⟨hlg, hpos, hfirst⟩ := firstE_0 h0
  obtain ⟨hv, ht⟩ := largeE_0.1 hlg
  have hmem : Hid (∀ g, g ∈ agr p → g.length = p.opts.length ∧ ∀ i, i < g.length → 0 ≤ nth g i) := Lib.hid (fun g hg => ⟨(agr_mem hv hg).2.1, fun i hi => ((agr_mem hv hg).2.2.1 i hi).1⟩)
  have hfl : (firstL p).length = p.opts.length := by rw [hfirst]; exact (hmem.out _ (nth_mem hpos)).1
  have hres : Hid (forcedR p = forcedL p (agr p).length 0 ∧ firstE p = 0) := Lib.hid ⟨by simp [forcedR, h0], h0⟩
  have HV := Lib.hid hv
  have h64 : p.opts.length ≤ 64 := by rw [valid_len hv]; exact valid_pane64 hv
  have hst := Lib.hid (forcedL_start hfl)
  have hfl' : (firstL p).length ≤ 64 := by omega
  replace hfl := Lib.hid hfl
  clear h0 hlg hfirst hv
  go_wp2_with (first | (go_at_call 52; refine (rFirst x1 _ _ _ p HP.out).mono ?_; rintro e w' ⟨v, rfl, x1, rfl, hI⟩; obtain ⟨a1, c1, rfl, _, hIf⟩ := (hI.below (Below.refl _ _)).opened; obtain ⟨z, hz, hown⟩ := owns_empty x1 3 1) | (at_builtin; refine wpList_appN z 22 3 _ 1 8 Try.info3 rfl (by decide) Try.underlying22 rfl _ _ rfl _ _ _ (by rfl) hown a1 (firstL p).length c1 ((firstL p).map (Value.int .i64)) (by rfl) (by simp) (ints_cells hIf.out ⟨z.w, hz ▸ below_alloc1 _ _⟩) (ints_one _) (by omega) (by omega) ?_; intro v' x2 hown' _; obtain ⟨A', c', rfl⟩ := owns_slice hown'; clear hz hown) | (go_at_call 71; refine (rAgreeing (Later.now x2.w) _ _ _ p (HP.out.below x2.h) HV.out ht).mono ?_; rintro e w' ⟨v, rfl, y, rfl, hl⟩; obtain ⟨al, cl, rfl, ll, _⟩ := hl.is.opened))
  simp only [Nat.zero_add, List.nil_append] at hown' ⊢
  obtain ⟨N, hN⟩ : ∃ N, N = x2.w.heap.size := ⟨_, rfl⟩
  have hblk : Hid (∀ k, (Value.slice A' (firstL p).length c').ownBlock = some k → k < N) := Lib.hid (fun k hk => hN ▸ (hown'.lt k hk).2)
  rw [← hN] at hl
  replace hown' := owns_later hown' y.h
  clear hN
  rw [hfl.out]
  rw [hfl.out] at hown' hblk
  go_loopw [8, 9] (fun i _ wr => ∃ n : Nat, n ≤ (agr p).length ∧ i = .int .i64 n ∧ ∃ z : Later W1, wr = z.w ∧ z.w.ownsRow W1.heap.size 3 1 (.slice A' p.opts.length c') p.opts.length ((forcedL p n 0).map (Value.int .i64)) ∧ IsIntssF N z.w (.slice al (agr p).length cl) (agr p)) (fun i _ _ => (agr p).length - (intOf i).toNat)
  case atStart => exact ⟨0, Nat.zero_le _, rfl, x2.up y, rfl, by rw [hst.out]; exact hown', hl⟩
  case round =>
    clear hown' hl
    obtain ⟨n, hn, rfl, x, rfl, hown, hl⟩ := hrel
    by_cases hlt : n < (agr p).length
    · obtain ⟨hm1, hm2⟩ := hmem.out _ (nth_mem hlt)
      replace hm1 := Lib.hid hm1
      replace hm2 := Lib.hid hm2
      have hrow := Lib.hid (forcedL_row p n)
      go_wp2
      go_loopw [9] (fun i wr => ∃ m : Nat, m ≤ p.opts.length ∧ i = .int .i64 m ∧ ∃ z : Later W1, wr = z.w ∧ z.w.ownsRow W1.heap.size 3 1 (.slice A' p.opts.length c') p.opts.length ((forcedL p n m).map (Value.int .i64)) ∧ IsIntssF N z.w (.slice al (agr p).length cl) (agr p)) (fun i _ => p.opts.length - (intOf i).toNat)
      case atStart => exact ⟨0, Nat.zero_le _, rfl, x, rfl, hown, hl⟩
      case round =>
        clear hown hl
        obtain ⟨m, hm, rfl, x, rfl, hown, hl⟩ := hrel
        by_cases hlt' : m < p.opts.length
        · have HL := Lib.hid hl
          obtain ⟨al', cl', hv', _, hF⟩ := hl
          cases hv'
          obtain ⟨b, o, rfl, hb, _, u, c0, hu⟩ := hF n hlt
          obtain ⟨au, cu, rfl, lu, hu'⟩ := hu
          have hml : m < (nth (agr p) n).length := by rw [hm1.out]; exact hlt'
          have hm0 := hm2.out m hml
          obtain ⟨b2, o2, rfl, hb2, _, d0⟩ := hu' m hml
          obtain ⟨g, c3, hv, _, _⟩ := owns_head hown (by omega)
          cases hv
          obtain ⟨e0, _, e2, _⟩ := owns_at x hown m hlt'
          have hcell : ((forcedL p n m).map (Value.int .i64))[m]? = some (.int .i64 (forcedAt p n m)) := by
            have h1 := nth_forcedL (p := p) (n := n) (m := m) hlt'
            rw [if_neg (by omega), nth_eq _ _ (by rw [forcedL_len]; exact hlt')] at h1
            rw [List.getElem?_map, List.getElem?_eq_getElem (by rw [forcedL_len]; exact hlt'), h1]; rfl
          rw [hcell] at e0
          replace e0 := Since.cells (Later.cell e2 e0)
          replace e2 := Since.sizes (Later.size e2)
          replace c0 := Since.cells (Later.cell hb c0)
          replace hb := Since.sizes (Later.size hb)
          replace d0 := Since.cells (Later.cell hb2 d0)
          replace hb2 := Since.sizes (Later.size hb2)
          replace hcell := Lib.hid hcell
          have hsame := Lib.hid (@forcedL_same p n m hlt')
          have hset := Lib.hid (@forcedL_set p n m hlt')
          clear hu' hF
          go_wp2
          refine wp_region_since x (by kernel_rfl) (by kernel_rfl) ?_
          repeat (go_big_quiet_step (fail))
          refine wpQuiet_nil ?_
          rintro _ ⟨⟨y, hy⟩, rfl⟩
          replace hown := owns_later hown hy
          have HL2 := Lib.hid (HL.out.later hy)
          clear e0 e2 c0 hb d0 hb2 HL
          obtain ⟨f0, f1, f2, f3⟩ := owns_at y hown m hlt'
          rw [hcell.out] at f0
          obtain ⟨z, hz, hown', _⟩ := f3 (.int .i64 (-1))
          clear f3
          have hgN := hblk.out g rfl
          have hl' : IsIntssF N z.w (.slice (some ⟨b, o, none⟩) (agr p).length cl) (agr p) := hz ▸ HL2.out.setCell hgN _
          replace hl' := Lib.hid hl'
          replace hown' := Lib.hid hown'
          clear hgN
          go_wp2
          · go_roundw
            case rel => exact ⟨m + 1, by omega, by go_num, z, rfl, by rw [hset.out (ne_bneI (by assumption)), List.map_set]; exact hown'.out, hl'.out⟩
            case measure => simp [intOf]; omega
          · go_roundw
            case rel => exact ⟨m + 1, by omega, by go_num, y, rfl, by rw [hsame.out (eq_bneI (by assumption)) hm0]; exact hown, HL2.out⟩
            case measure => simp [intOf]; omega
        · obtain rfl : m = p.opts.length := by omega
          go_wp2
          go_roundw
          case rel => exact ⟨n + 1, by omega, by go_num, x, rfl, by rw [← hrow.out]; exact hown, hl⟩
          case measure => simp [intOf]; omega
    · obtain rfl : n = (agr p).length := by omega
      go_wp2
      go_ret2
      obtain ⟨z, hz⟩ := x.down hb1
      refine ⟨_, by rw [hres.out.2]; rfl, z, hz, ?_⟩
      rw [hres.out.1, ← hz]
      exact isInts_of_owns hown (by omega)
end Go.Proofs.Ytmpkbolabdmkkaa

/- CONTRACTS of the reference's SameInts, SameTables. -/
namespace Go.Proofs.Ytmpkbolabdmkkaa
open Go.RowKit

theorem dec_no {α : Type} [DecidableEq α] {a b : α} (h : a ≠ b) : decide (a = b) = false := by simpa using h
theorem dec_yes {α : Type} [DecidableEq α] {a b : α} (h : a = b) : decide (a = b) = true := by simpa using h
theorem ne_bneB {a b : Bool} (h : (!a == b) = true) : a ≠ b := by cases a <;> cases b <;> simp_all
theorem eq_bneB {a b : Bool} (h : (!a == b) = false) : a = b := by cases a <;> cases b <;> simp_all

set_option maxRecDepth 100000 in
set_option maxHeartbeats 1000000 in
theorem rSameInts {W : World} (x : Later W) (va vb : Value) (a b : List Int) (ha : IsInts W va a) (hb : IsInts W vb b) :
    Calls Try.prog 20 #[va, vb] x.w (Ends W (.bool (decide (a = b)))) := by
  obtain ⟨aa, ca, rfl, la, hA⟩ := ha.opened
  obtain ⟨ab, cb, rfl, lb, hB⟩ := hb.opened
  clear ha hb
  go_enter Try.func20, Try.ntmps20
  by_cases hl : a.length = b.length
  case neg =>
    have hno : Hid (decide (a = b) = false) := Lib.hid (dec_no (fun h => hl (by rw [h])))
    have hl' : ((a.length : Int) != b.length) = true := by simp; omega
    clear hl
    go_wp2
    go_ret; exact ⟨ret_bool hno.out.symm, x, rfl⟩
  have hl' : ((a.length : Int) != b.length) = false := by simp; omega
  replace hl := Lib.hid hl
  go_wp2
  go_loopw [5] (fun i wr => ∃ k : Nat, k ≤ a.length ∧ i = .int .i64 k ∧ (∃ y : Later W, wr = y.w) ∧ (∀ i, i < k → nth a i = nth b i)) (fun i _ => a.length - (intOf i).toNat)
  case atStart => exact ⟨0, Nat.zero_le _, rfl, ⟨x, rfl⟩, by omega⟩
  case round =>
    obtain ⟨k, hk, rfl, ⟨x, rfl⟩, hin⟩ := hrel
    replace hin := Lib.hid hin
    by_cases hlt : k < a.length
    · have hltb : k < b.length := by have := hl.out; omega
      obtain ⟨b1, o1, rfl, hb1, c1⟩ := hA.out k hlt
      obtain ⟨b2, o2, rfl, hb2, c2⟩ := hB.out k hltb
      go_wp2
      refine wp_region_later x (by kernel_rfl) (by kernel_rfl) ?_
      repeat (go_big_quiet_step (fail))
      refine wpQuiet_nil ?_
      rintro _ ⟨x, rfl⟩
      go_wp2
      · go_ret; exact ⟨ret_bool (dec_no (fun h => ne_bneI (by assumption) (by rw [h]))).symm, x, rfl⟩
      · go_roundw
        case rel => exact ⟨k + 1, by omega, by go_num, ⟨x, rfl⟩, all_step hin.out (eq_bneI (by assumption))⟩
        case measure => simp [intOf]; omega
    · obtain rfl : k = a.length := by omega
      go_wp2
      go_ret; exact ⟨ret_bool (dec_yes (ext_nth hl.out hin.out)).symm, x, rfl⟩

set_option maxRecDepth 100000 in
set_option maxHeartbeats 1000000 in
theorem rSameTables {W : World} (x : Later W) (va vb : Value) (a b : List (List Bool)) (ha : IsBoolss W va a) (hb : IsBoolss W vb b) :
    Calls Try.prog 45 #[va, vb] x.w (Ends W (.bool (decide (a = b)))) := by
  obtain ⟨aa, ca, rfl, la, hA⟩ := ha.opened
  obtain ⟨ab, cb, rfl, lb, hB⟩ := hb.opened
  clear ha hb
  go_enter Try.func45, Try.ntmps45
  by_cases hl : a.length = b.length
  case neg =>
    have hno : Hid (decide (a = b) = false) := Lib.hid (dec_no (fun h => hl (by rw [h])))
    have hl' : ((a.length : Int) != b.length) = true := by simp; omega
    clear hl
    go_wp2
    go_ret; exact ⟨ret_bool hno.out.symm, x, rfl⟩
  have hl' : ((a.length : Int) != b.length) = false := by simp; omega
  replace hl := Lib.hid hl
  go_wp2
  go_loopw [5, 6] (fun i _ wr => ∃ k : Nat, k ≤ a.length ∧ i = .int .i64 k ∧ (∃ y : Later W, wr = y.w) ∧ (∀ i, i < k → nth a i = nth b i)) (fun i _ _ => a.length - (intOf i).toNat)
  case atStart => exact ⟨0, Nat.zero_le _, rfl, ⟨x, rfl⟩, by omega⟩
  case round =>
    obtain ⟨k, hk, rfl, ⟨x, rfl⟩, hin⟩ := hrel
    replace hin := Lib.hid hin
    by_cases hlt : k < a.length
    · have hltb : k < b.length := by have := hl.out; omega
      obtain ⟨b1, o1, rfl, hb1, u1, c1, hU1⟩ := hA.out k hlt
      obtain ⟨b2, o2, rfl, hb2, u2, c2, hU2⟩ := hB.out k hltb
      obtain ⟨a3, c3, rfl, l3, h3⟩ := hU1.opened
      obtain ⟨a4, c4, rfl, l4, h4⟩ := hU2.opened
      go_wp2
      refine wp_region_later x (by kernel_rfl) (by kernel_rfl) ?_
      repeat (go_big_quiet_step (fail))
      refine wpQuiet_nil ?_
      rintro _ ⟨x, rfl⟩
      go_wp2
      · go_ret; exact ⟨ret_bool (dec_no (fun h => ne_bne (by assumption) (by rw [h]))).symm, x, rfl⟩
      · have hrl : Hid ((nth a k).length = (nth b k).length) := Lib.hid (eq_bne (by assumption))
        go_loopw [6] (fun i wr => ∃ m : Nat, m ≤ (nth a k).length ∧ i = .int .i64 m ∧ (∃ y : Later W, wr = y.w) ∧ (∀ i, i < m → nth (nth a k) i = nth (nth b k) i)) (fun i _ => (nth a k).length - (intOf i).toNat)
        case atStart => exact ⟨0, Nat.zero_le _, rfl, ⟨x, rfl⟩, by omega⟩
        case round =>
          obtain ⟨m, hm, rfl, ⟨x, rfl⟩, hin2⟩ := hrel
          replace hin2 := Lib.hid hin2
          by_cases hlt' : m < (nth a k).length
          · have hltb' : m < (nth b k).length := by have := hrl.out; omega
            obtain ⟨b5, o5, rfl, hb5, c5⟩ := h3.out m hlt'
            obtain ⟨b6, o6, rfl, hb6, c6⟩ := h4.out m hltb'
            go_wp2
            refine wp_region_later x (by kernel_rfl) (by kernel_rfl) ?_
            repeat (go_big_quiet_step (fail))
            refine wpQuiet_nil ?_
            rintro _ ⟨x, rfl⟩
            go_wp2
            · go_ret; exact ⟨ret_bool (dec_no (fun h => ne_bneB (by assumption) (by rw [h]))).symm, x, rfl⟩
            · go_roundw
              case rel => exact ⟨m + 1, by omega, by go_num, ⟨x, rfl⟩, all_step hin2.out (eq_bneB (by assumption))⟩
              case measure => simp [intOf]; omega
          · obtain rfl : m = (nth a k).length := by omega
            go_wp2
            go_roundw
            case rel => exact ⟨k + 1, by omega, by go_num, ⟨x, rfl⟩, all_step hin.out (ext_nth hrl.out hin2.out)⟩
            case measure => simp [intOf]; omega
    · obtain rfl : k = a.length := by omega
      go_wp2
      go_ret; exact ⟨ret_bool (dec_yes (ext_nth hl.out hin.out)).symm, x, rfl⟩
end Go.Proofs.Ytmpkbolabdmkkaa

/- CONTRACTS of the reference's SameRule, SameProblem. -/
namespace Go.Proofs.Ytmpkbolabdmkkaa
open Go.RowKit

theorem opt_ext {a b : Opt} (h1 : a.piece = b.piece) (h2 : a.shift = b.shift) (h3 : a.back = b.back) (h4 : a.colour = b.colour) : a = b := by
  obtain ⟨a1, a2, a3, a4⟩ := a; obtain ⟨b1, b2, b3, b4⟩ := b; simp_all

theorem rl_eq (a b : Rl) : decide (a = b) = ((a.item == b.item) && (a.kind == b.kind) && ((a.lo == b.lo) && (a.hi == b.hi)) && decide (a.panes = b.panes) && decide (a.hits = b.hits) && decide (a.ok = b.ok)) := by
  obtain ⟨a1, a2, a3, a4, a5, a6, a7⟩ := a
  obtain ⟨b1, b2, b3, b4, b5, b6, b7⟩ := b
  rw [Bool.eq_iff_iff]
  simp only [decide_eq_true_eq, Rl.mk.injEq, Bool.and_eq_true, beq_iff_eq]
  constructor
  · rintro ⟨h1, h2, h3, h4, h5, h6, h7⟩; exact ⟨⟨⟨⟨⟨h1, h2⟩, h5, h6⟩, h3⟩, h4⟩, h7⟩
  · rintro ⟨⟨⟨⟨⟨h1, h2⟩, h5, h6⟩, h3⟩, h4⟩, h7⟩; exact ⟨h1, h2, h3, h4, h5, h6, h7⟩

set_option maxRecDepth 100000 in
set_option maxHeartbeats 2000000 in
theorem rSameRule {W : World} (x : Later W) (u2 u3 u6 v2 v3 v6 : Value) (a b : Rl) (ha : IsRl W u2 u3 u6 a) (hb : IsRl W v2 v3 v6 b) :
    Calls Try.prog 79 #[.agg #[.int .i64 a.item, .int .i64 a.kind, u2, u3, .int .i64 a.lo, .int .i64 a.hi, u6], .agg #[.int .i64 b.item, .int .i64 b.kind, v2, v3, .int .i64 b.lo, .int .i64 b.hi, v6]] x.w (Ends W (.bool (decide (a = b)))) := by
  have hres := Lib.hid (rl_eq a b)
  go_enter Try.func79, Try.ntmps79
  go_upto_region 1 with (fail)
  obtain ⟨W1, x1, e1, hb1, ⟨s1, s2⟩, ⟨p0, p1, p2, p3, p4, p5, p6⟩, q0, q1, q2, q3, q4, q5, q6⟩ := enter77 x (.int .i64 a.item) (.int .i64 a.kind) u2 u3 (.int .i64 a.lo) (.int .i64 a.hi) u6 (.int .i64 b.item) (.int .i64 b.kind) v2 v3 (.int .i64 b.lo) (.int .i64 b.hi) v6 87 87
  rw [e1]; clear e1
  have HA := Lib.hid (ha.below hb1)
  have HB := Lib.hid (hb.below hb1)
  obtain ⟨a2, c2, rfl, _, _⟩ := ha.panes.opened
  obtain ⟨a3, c3, rfl, _, _⟩ := ha.hits.opened
  obtain ⟨a6, c6, rfl, _, _⟩ := ha.ok.opened
  obtain ⟨b2, d2, rfl, _, _⟩ := hb.panes.opened
  obtain ⟨b3, d3, rfl, _, _⟩ := hb.hits.opened
  obtain ⟨b6, d6, rfl, _, _⟩ := hb.ok.opened
  clear ha hb
  cases h1 : a.item == b.item
  · rw [h1] at hres
    go_wp2_with fail
    go_ret; exact ⟨ret_bool (by rw [hres.out]; rfl), x1.down hb1⟩
  cases h2 : a.kind == b.kind
  · rw [h1, h2] at hres
    go_wp2_with fail
    go_ret; exact ⟨ret_bool (by rw [hres.out]; rfl), x1.down hb1⟩
  rw [h1, h2] at hres
  by_cases h3 : a.lo = b.lo
  case neg =>
    have e3 : (a.lo == b.lo) = false := by simp [h3]
    rw [e3] at hres
    clear e3
    go_wp2_with fail
    go_ret; exact ⟨ret_bool (by rw [hres.out]; rfl), x1.down hb1⟩
  by_cases h4 : a.hi = b.hi
  case neg =>
    have e4 : (a.hi == b.hi) = false := by simp [h4]
    rw [e4] at hres
    clear e4
    go_wp2_with fail
    go_ret; exact ⟨ret_bool (by rw [hres.out]; simp), x1.down hb1⟩
  have e3 : (a.lo == b.lo) = true := by simp [h3]
  have e4 : (a.hi == b.hi) = true := by simp [h4]
  rw [e3, e4] at hres
  clear e3 e4
  cases h5 : decide (a.panes = b.panes)
  · rw [h5] at hres
    go_wp2_with (go_at_call 20; refine (rSameInts x1 _ _ _ _ HA.out.panes HB.out.panes).mono ?_; rintro e w' ⟨rfl, x1, rfl⟩)
    go_ret; exact ⟨ret_bool (by rw [hres.out]; rfl), x1.down hb1⟩
  rw [h5] at hres
  cases h6 : decide (a.hits = b.hits)
  · rw [h6] at hres
    go_wp2_with (first | (go_at_call 20; refine (rSameInts x1 _ _ _ _ HA.out.panes HB.out.panes).mono ?_; rintro e w' ⟨rfl, x1, rfl⟩) | (go_at_call 45; refine (rSameTables x1 _ _ _ _ HA.out.hits HB.out.hits).mono ?_; rintro e w' ⟨rfl, x1, rfl⟩))
    go_ret; exact ⟨ret_bool (by rw [hres.out]; rfl), x1.down hb1⟩
  rw [h6] at hres
  go_wp2_with (first | (go_at_call 20; refine (rSameInts x1 _ _ _ _ HA.out.panes HB.out.panes).mono ?_; rintro e w' ⟨rfl, x1, rfl⟩) | (go_at_call 45; (with_reducible refine (rSameTables x1 _ _ _ _ HA.out.hits HB.out.hits).mono ?_); rintro e w' ⟨rfl, x1, rfl⟩) | (go_at_call 45; (with_reducible refine (rSameTables x1 _ _ _ _ HA.out.ok HB.out.ok).mono ?_); rintro e w' ⟨rfl, x1, rfl⟩))
  go_ret; exact ⟨ret_bool (by rw [hres.out]; simp), x1.down hb1⟩

set_option maxRecDepth 100000 in
set_option maxHeartbeats 2000000 in
theorem rSameProblem {W : World} (x : Later W) (u0 u1 u2 v0 v1 v2 : Value) (a b : Prob) (ha : IsProb W u0 u1 u2 a) (hb : IsProb W v0 v1 v2 b) :
    Calls Try.prog 21 #[.agg #[u0, u1, u2], .agg #[v0, v1, v2]] x.w (Ends W (.bool (decide (a = b)))) := by
  go_enter Try.func21, Try.ntmps21
  go_upto_region 1 with (fail)
  obtain ⟨W1, x1, e1, hb1, ⟨s1, s2⟩, ⟨p0, p1, p2⟩, q0, q1, q2⟩ := enter33 x u0 u1 u2 v0 v1 v2 26 26
  rw [e1]; clear e1
  have HA := Lib.hid (ha.below hb1)
  have HB := Lib.hid (hb.below hb1)
  obtain ⟨a0, c0, rfl, _, _⟩ := HA.out.panes.opened
  obtain ⟨a1, c1, rfl, _, hO1⟩ := HA.out.opts.opened
  obtain ⟨a2, c2, rfl, _, hR1⟩ := HA.out.rules.opened
  obtain ⟨b0, d0, rfl, _, _⟩ := HB.out.panes.opened
  obtain ⟨b1, d1, rfl, _, hO2⟩ := HB.out.opts.opened
  obtain ⟨b2, d2, rfl, _, hR2⟩ := HB.out.rules.opened
  clear ha hb
  have hne1 : Hid (a.panes ≠ b.panes → decide (a = b) = false) := Lib.hid (fun h => dec_no (fun h' => h (by rw [h'])))
  have hne2 : Hid (a.opts ≠ b.opts → decide (a = b) = false) := Lib.hid (fun h => dec_no (fun h' => h (by rw [h'])))
  have hne3 : Hid (a.rules ≠ b.rules → decide (a = b) = false) := Lib.hid (fun h => dec_no (fun h' => h (by rw [h'])))
  cases h1 : decide (a.panes = b.panes)
  · have hno := Lib.hid (hne1.out (by simpa using h1))
    go_wp2_with (go_at_call 20; refine (rSameInts x1 _ _ _ _ HA.out.panes HB.out.panes).mono ?_; rintro e w' ⟨rfl, x1, rfl⟩)
    go_ret; exact ⟨ret_bool hno.out.symm, x1.down hb1⟩
  by_cases h2 : a.opts.length = b.opts.length
  case neg =>
    have hno := Lib.hid (hne2.out (fun h => h2 (by rw [h])))
    have e2 : ((a.opts.length : Int) != b.opts.length) = true := by simp; omega
    clear h2
    go_wp2_with (go_at_call 20; refine (rSameInts x1 _ _ _ _ HA.out.panes HB.out.panes).mono ?_; rintro e w' ⟨rfl, x1, rfl⟩)
    go_ret; exact ⟨ret_bool hno.out.symm, x1.down hb1⟩
  have e2 : ((a.opts.length : Int) != b.opts.length) = false := by simp; omega
  replace h2 := Lib.hid h2
  by_cases h3 : a.rules.length = b.rules.length
  case neg =>
    have hno := Lib.hid (hne3.out (fun h => h3 (by rw [h])))
    have e3 : ((a.rules.length : Int) != b.rules.length) = true := by simp; omega
    clear h3
    go_wp2_with (go_at_call 20; refine (rSameInts x1 _ _ _ _ HA.out.panes HB.out.panes).mono ?_; rintro e w' ⟨rfl, x1, rfl⟩)
    go_ret; exact ⟨ret_bool hno.out.symm, x1.down hb1⟩
  have e3 : ((a.rules.length : Int) != b.rules.length) = false := by simp; omega
  replace h3 := Lib.hid h3
  go_wp2_with (go_at_call 20; refine (rSameInts x1 _ _ _ _ HA.out.panes HB.out.panes).mono ?_; rintro e w' ⟨rfl, x1, rfl⟩)
  go_loopw [5, 6] (fun i _ wr => ∃ k : Nat, k ≤ a.opts.length ∧ i = .int .i64 k ∧ (∃ y : Later W1, wr = y.w) ∧ (∀ i, i < k → nth a.opts i = nth b.opts i)) (fun i _ _ => a.opts.length - (intOf i).toNat)
  case atStart => exact ⟨0, Nat.zero_le _, rfl, ⟨x1, rfl⟩, by omega⟩
  case round =>
    obtain ⟨k, hk, rfl, ⟨x, rfl⟩, hin⟩ := hrel
    replace hin := Lib.hid hin
    by_cases hlt : k < a.opts.length
    · have hltb : k < b.opts.length := by have := h2.out; omega
      obtain ⟨g1, o1, rfl, hg1, y1, f1, hU1⟩ := hO1.out k hlt
      obtain ⟨g2, o2, rfl, hg2, y2, f2, hU2⟩ := hO2.out k hltb
      obtain ⟨a3, c3, rfl, l3, t3⟩ := hU1.opened
      obtain ⟨a4, c4, rfl, l4, t4⟩ := hU2.opened
      go_wp2
      refine wp_region_later x (by kernel_rfl) (by kernel_rfl) ?_
      repeat (go_big_quiet_step (fail))
      refine wpQuiet_nil ?_
      rintro _ ⟨x, rfl⟩
      go_wp2
      · go_ret; exact ⟨ret_bool (hne2.out (fun h => ne_bne (by assumption) (by rw [h]))).symm, x.down hb1⟩
      · have hrl : Hid ((nth a.opts k).length = (nth b.opts k).length) := Lib.hid (eq_bne (by assumption))
        go_loopw [6] (fun i wr => ∃ m : Nat, m ≤ (nth a.opts k).length ∧ i = .int .i64 m ∧ (∃ y : Later W1, wr = y.w) ∧ (∀ i, i < m → nth (nth a.opts k) i = nth (nth b.opts k) i)) (fun i _ => (nth a.opts k).length - (intOf i).toNat)
        case atStart => exact ⟨0, Nat.zero_le _, rfl, ⟨x, rfl⟩, by omega⟩
        case round =>
          obtain ⟨m, hm, rfl, ⟨x, rfl⟩, hin2⟩ := hrel
          replace hin2 := Lib.hid hin2
          by_cases hlt' : m < (nth a.opts k).length
          · have hltb' : m < (nth b.opts k).length := by have := hrl.out; omega
            obtain ⟨g5, o5, rfl, hg5, w0, w1, w2, w3⟩ := t3.out m hlt'
            obtain ⟨g6, o6, rfl, hg6, z0, z1, z2, z3⟩ := t4.out m hltb'
            cases t1 : (nth (nth a.opts k) m).piece == (nth (nth b.opts k) m).piece
            · go_wp2
              refine wp_region_later x (by kernel_rfl) (by kernel_rfl) ?_
              repeat (go_big_quiet_step (fail))
              refine wpQuiet_nil ?_
              rintro _ ⟨x, rfl⟩
              go_wp2
              go_ret; exact ⟨ret_bool (hne2.out (fun h => by rw [h] at t1; simp at t1)).symm, x.down hb1⟩
            cases t2 : (nth (nth a.opts k) m).shift == (nth (nth b.opts k) m).shift
            · go_wp2
              refine wp_region_later x (by kernel_rfl) (by kernel_rfl) ?_
              repeat (go_big_quiet_step (fail))
              refine wpQuiet_nil ?_
              rintro _ ⟨x, rfl⟩
              go_wp2
              go_ret; exact ⟨ret_bool (hne2.out (fun h => by rw [h] at t2; simp at t2)).symm, x.down hb1⟩
            cases t3 : (nth (nth a.opts k) m).back == (nth (nth b.opts k) m).back
            · go_wp2
              refine wp_region_later x (by kernel_rfl) (by kernel_rfl) ?_
              repeat (go_big_quiet_step (fail))
              refine wpQuiet_nil ?_
              rintro _ ⟨x, rfl⟩
              go_wp2
              go_ret; exact ⟨ret_bool (hne2.out (fun h => by rw [h] at t3; simp at t3)).symm, x.down hb1⟩
            cases t4 : (nth (nth a.opts k) m).colour == (nth (nth b.opts k) m).colour
            · go_wp2
              refine wp_region_later x (by kernel_rfl) (by kernel_rfl) ?_
              repeat (go_big_quiet_step (fail))
              refine wpQuiet_nil ?_
              rintro _ ⟨x, rfl⟩
              go_wp2
              go_ret; exact ⟨ret_bool (hne2.out (fun h => by rw [h] at t4; simp at t4)).symm, x.down hb1⟩
            have heq : Hid (nth (nth a.opts k) m = nth (nth b.opts k) m) := Lib.hid (opt_ext (by simpa using t1) (by simpa using t2) (by simpa using t3) (by simpa using t4))
            go_wp2
            refine wp_region_later x (by kernel_rfl) (by kernel_rfl) ?_
            repeat (go_big_quiet_step (fail))
            refine wpQuiet_nil ?_
            rintro _ ⟨x, rfl⟩
            go_wp2
            go_roundw
            case rel => exact ⟨m + 1, by omega, by go_num, ⟨x, rfl⟩, all_step hin2.out heq.out⟩
            case measure => simp [intOf]; omega
          · obtain rfl : m = (nth a.opts k).length := by omega
            go_wp2
            go_roundw
            case rel => exact ⟨k + 1, by omega, by go_num, ⟨x, rfl⟩, all_step hin.out (ext_nth hrl.out hin2.out)⟩
            case measure => simp [intOf]; omega
    · obtain rfl : k = a.opts.length := by omega
      have heo := Lib.hid (ext_nth h2.out hin.out)
      go_wp2
      go_loopw [7] (fun i wr => ∃ k : Nat, k ≤ a.rules.length ∧ i = .int .i64 k ∧ (∃ y : Later W1, wr = y.w) ∧ (∀ i, i < k → nth a.rules i = nth b.rules i)) (fun i _ => a.rules.length - (intOf i).toNat)
      case atStart => exact ⟨0, Nat.zero_le _, rfl, ⟨x, rfl⟩, by omega⟩
      case round =>
        obtain ⟨k, hk, rfl, ⟨x, rfl⟩, hin⟩ := hrel
        replace hin := Lib.hid hin
        by_cases hlt : k < a.rules.length
        · have hltb : k < b.rules.length := by have := h3.out; omega
          obtain ⟨g1, o1, rfl, hg1, r2, r3, r6, f0, f1, f2, f3, f4, f5, f6, hI1⟩ := hR1.out k hlt
          obtain ⟨g2, o2, rfl, hg2, t2, t3, t6, j0, j1, j2, j3, j4, j5, j6, hI2⟩ := hR2.out k hltb
          have HI1 := Lib.hid hI1
          have HI2 := Lib.hid hI2
          obtain ⟨_, _, rfl, _, _⟩ := hI1.panes.opened
          obtain ⟨_, _, rfl, _, _⟩ := hI1.hits.opened
          obtain ⟨_, _, rfl, _, _⟩ := hI1.ok.opened
          obtain ⟨_, _, rfl, _, _⟩ := hI2.panes.opened
          obtain ⟨_, _, rfl, _, _⟩ := hI2.hits.opened
          obtain ⟨_, _, rfl, _, _⟩ := hI2.ok.opened
          clear hI1 hI2
          go_wp2
          refine wp_region_later x (by kernel_rfl) (by kernel_rfl) ?_
          repeat (go_big_quiet_step ((go_at_call 79; exact rSameRule _ _ _ _ _ _ _ (nth a.rules k) (nth b.rules k) HI1.out HI2.out)))
          refine wpQuiet_nil ?_
          rintro _ ⟨x, rfl⟩
          cases hA : decide (nth a.rules k = nth b.rules k) <;> go_wp2
          · go_ret; exact ⟨ret_bool (hne3.out (fun h => by simp [h] at hA)).symm, x.down hb1⟩
          · go_roundw
            case rel => exact ⟨k + 1, by omega, by go_num, ⟨x, rfl⟩, all_step hin.out (by simpa using hA)⟩
            case measure => simp [intOf]; omega
        · obtain rfl : k = a.rules.length := by omega
          have her := ext_nth h3.out hin.out
          have hall : Hid (decide (a = b) = true) := Lib.hid (dec_yes (by
            obtain ⟨pa, oa, ra⟩ := a; obtain ⟨pb, ob, rb⟩ := b
            have e0 : pa = pb := by simpa using h1
            have e1 : oa = ob := heo.out
            have e2 : ra = rb := her
            rw [e0, e1, e2]))
          clear her
          go_wp2
          go_ret; exact ⟨ret_bool hall.out.symm, x.down hb1⟩
end Go.Proofs.Ytmpkbolabdmkkaa
