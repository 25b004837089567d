/- CONTRACTS of the reference's Agreeing, First, Count. -/
import Derived.Test.YtmpkbolabdmkkaaRefJ
namespace Go.Proofs.Ytmpkbolabdmkkaa
open Go.RowKit

set_option maxRecDepth 100000 in
set_option maxHeartbeats 1000000 in
theorem rAgreeing {W : World} (x : Later W) (v0 v1 v2 : Value) (p : Prob) (hp : IsProb W v0 v1 v2 p) (hv : validP p = true) (ht : total p ≤ 65536) :
    Calls Try.prog 71 #[.agg #[v0, v1, v2]] x.w (EndsIntss W (agr p)) := by
  have hV := Lib.hid hv
  have hin : Hid (∀ f, f ∈ fills p → fillB p f = true) := Lib.hid (fun f hf => by obtain ⟨r, _, rfl⟩ := mem_fills.1 hf; exact fill_B hv r)
  clear hv
  go_enter Try.func71, Try.ntmps71
  go_upto_region 1 with (fail)
  obtain ⟨W1, x1, e1, hb1, s1, p0, p1, p2⟩ := enter3 x v0 v1 v2 26
  rw [e1]; clear e1
  have HP := Lib.hid (hp.below hb1)
  obtain ⟨ap, cp, rfl, lp, _⟩ := hp.panes.opened
  obtain ⟨ao, co, rfl, lo, _⟩ := hp.opts.opened
  obtain ⟨ar, cr, rfl, lr, _⟩ := hp.rules.opened
  clear hp
  go_wp2_with (go_at_call 125; refine (rall x1 _ _ _ p HP.out hV.out ht).mono ?_; rintro e w' ⟨v, rfl, y, rfl, hl⟩; obtain ⟨W2, hW2, hb2⟩ : ∃ W2, y.w = W2 ∧ Below W1.heap.size W1 W2 := ⟨_, rfl, y.h⟩; rw [hW2] at hl ⊢; clear hW2; have HL := Lib.hid hl; obtain ⟨al, cl, rfl, ll, hll⟩ := hl.is.opened; clear hl)
  replace p0 := Later.cells hb2 p0
  replace p1 := Later.cells hb2 p1
  replace p2 := Later.cells hb2 p2
  replace s1 := Later.sizes hb2 s1
  have HP2 := Lib.hid (HP.out.below hb2)
  have hflen := fills_len p
  have hfl : (fills p).length ≤ 65536 := by omega
  clear hflen
  go_loopw [3, 5] (fun v i wr => ∃ k : Nat, k ≤ (fills p).length ∧ i = .int .i64 k ∧ ∃ z : Later W2, wr = z.w ∧ OwnIntss z W1.heap.size v (agrTo p k)) (fun _ i _ => (fills p).length - (intOf i).toNat)
  case atStart => exact ⟨0, Nat.zero_le _, rfl, Later.now W2, rfl, OwnIntss.nil _ _⟩
  case round =>
    obtain ⟨k, hk, rfl, ⟨x, rfl, hout⟩⟩ := hrel
    by_cases hlt : k < (fills p).length
    · obtain ⟨a', c', hv', _, hF⟩ := HL.out
      cases hv'
      obtain ⟨b, o, rfl, hb0, _, u, c0, hu⟩ := hF k hlt
      have hb := Later.size hb0
      replace c0 := Later.cell hb0 c0
      clear hF
      have hfB := hin.out _ (nth_mem hlt)
      have HU := Lib.hid hu
      replace hu := hu.is
      have hC := Lib.hid (fun z : Later x.w => ragrees z _ _ _ _ p (nth (fills p) k) (HP2.out.below x.h) (HU.out.is.below x.h) hV.out hfB)
      have hblk := Lib.hid (fun k hk => (hout.block k hk).1)
      obtain ⟨au, cu, rfl, _, _⟩ := hu.opened
      have hle := agrTo_len p k
      clear hfB
      cases hA : agreesB p (nth (fills p) k)
      · have HS := Lib.hid (agrTo_no hlt hA)
        go_wp2
        refine wp_region_since x (by kernel_rfl) (by kernel_rfl) ?_
        repeat (go_big_quiet_step ((go_at_call 102; exact calls_since hC.out)))
        refine wpQuiet_nil ?_
        rintro _ ⟨⟨y, hy⟩, rfl⟩
        replace hout := hout.later hy
        rw [hA]
        go_wp2
        go_roundw
        case rel => exact ⟨k + 1, by omega, by go_num, y, rfl, by rw [HS.out]; exact hout⟩
        case measure => simp [intOf]; omega
      · have HS := Lib.hid (agrTo_yes hlt hA)
        go_wp2
        refine wp_region_since x (by kernel_rfl) (by kernel_rfl) ?_
        repeat (go_big_quiet_step ((go_at_call 102; exact calls_since hC.out)))
        refine wpQuiet_nil ?_
        rintro _ ⟨⟨y, hy⟩, rfl⟩
        replace hout := hout.later hy
        rw [hA]
        go_wp2_with (at_builtin; (refine wpList_appL y rfl _ _ rfl _ _ (by rfl) hout _ (nth (fills p) k) (HU.out.off y.h hblk.out) (by rfl) (by omega) ?_); intro v' z hout' _)
        go_roundw
        case rel => exact ⟨k + 1, by omega, by go_num, z, rfl, by rw [HS.out]; exact hout'⟩
        case measure => simp [intOf]; omega
    · obtain rfl : k = (fills p).length := by omega
      rw [agrTo_all] at hout
      go_wp2
      go_ret
      have hle := agr_len p
      obtain ⟨z, hz⟩ := x.down (hb1.trans (hb2.mono hb1.size))
      exact ⟨_, rfl, z, hz, hz ▸ (hout.is (by omega) hb2.size).mono hb1.size⟩

set_option maxRecDepth 100000 in
set_option maxHeartbeats 1000000 in
theorem rFirst {W : World} (x : Later W) (v0 v1 v2 : Value) (p : Prob) (hp : IsProb W v0 v1 v2 p) :
    Calls Try.prog 52 #[.agg #[v0, v1, v2]] x.w (EndsIntsE W (firstL p) (firstE p)) := by
  go_enter Try.func52, Try.ntmps52
  go_upto_region 1 with (fail)
  obtain ⟨W1, x1, e1, hb1, s1, p0, p1, p2⟩ := enter3 x v0 v1 v2 26
  rw [e1]; clear e1
  have HP := Lib.hid (hp.below hb1)
  obtain ⟨ap, cp, rfl, lp, _⟩ := hp.panes.opened
  obtain ⟨ao, co, rfl, lo, _⟩ := hp.opts.opened
  obtain ⟨ar, cr, rfl, lr, _⟩ := hp.rules.opened
  clear hp
  by_cases h0 : largeE p = 0
  · have hb0 : (largeE p != 0) = false := by simp [h0]
    have hv := Lib.hid (largeE_0.1 h0)
    by_cases hn : (agr p).length = 0
    · have hres : Hid (firstE p = 72 ∧ firstL p = []) := Lib.hid (by have : firstE p = 72 := by simp [firstE, h0, hn]
                                                                     exact ⟨this, by simp [firstL, this]⟩)
      have hn' : (((agr p).length : Int) == 0) = true := by simp [hn]
      clear h0 hn
      go_wp2_with (first | (go_at_call 82; refine (rlarge x1 _ _ _ p HP.out).mono ?_; rintro e w' ⟨rfl, x1, rfl⟩) | (go_at_call 71; refine (rAgreeing x1 _ _ _ p HP.out hv.out.1 hv.out.2).mono ?_; rintro e w' ⟨v, rfl, x1, rfl, hl⟩; obtain ⟨al, cl, rfl, ll, hll⟩ := hl.is.opened))
      go_ret2
      obtain ⟨z, hz⟩ := x1.down hb1
      exact ⟨_, by rw [hres.out.1]; rfl, z, hz, hres.out.2 ▸ isInts_of_owns (l := []) (World.ownsRow_nil _ W1.heap.size 3 1) (by simp)⟩
    · have hn' : (((agr p).length : Int) == 0) = false := by simp; intro h; exact hn (by simp [h])
      have hres : Hid (firstE p = 0 ∧ firstL p = nth (agr p) 0) := Lib.hid (by have : firstE p = 0 := by simp [firstE, h0]; intro h; exact absurd (by simp [h]) hn
                                                                               exact ⟨this, by simp [firstL, this]⟩)
      have hpos : 0 < (agr p).length := by omega
      replace hn := Lib.hid hn
      clear h0
      go_wp2_with (first | (go_at_call 82; refine (rlarge x1 _ _ _ p HP.out).mono ?_; rintro e w' ⟨rfl, x1, rfl⟩) | (go_at_call 71; refine (rAgreeing x1 _ _ _ p HP.out hv.out.1 hv.out.2).mono ?_; rintro e w' ⟨v, rfl, x1, rfl, hl⟩; obtain ⟨al, cl, rfl, ll, hll⟩ := hl.is; obtain ⟨b, o, rfl, hb, u, c0, hu⟩ := hll 0 hpos; simp only [Nat.add_zero] at c0; obtain ⟨au, cu, rfl, _, _⟩ := hu.opened))
      go_ret2
      obtain ⟨z, hz⟩ := x1.down hb1
      refine ⟨.slice au (nth (agr p) 0).length cu, by rw [hres.out.1]; rfl, z, hz, ?_⟩
      rw [← hz, hres.out.2]; exact hu
  · have hb0 : (largeE p != 0) = true := by simp [h0]
    have hres : Hid (firstE p = largeE p ∧ firstL p = []) := Lib.hid (by have : firstE p = largeE p := by simp [firstE, h0]
                                                                         exact ⟨this, by simp [firstL, this, h0]⟩)
    clear h0
    go_wp2_with (go_at_call 82; refine (rlarge x1 _ _ _ p HP.out).mono ?_; rintro e w' ⟨rfl, x1, rfl⟩)
    go_ret2
    obtain ⟨z, hz⟩ := x1.down hb1
    exact ⟨_, by rw [hres.out.1]; rfl, z, hz, hres.out.2 ▸ isInts_of_owns (l := []) (World.ownsRow_nil _ W1.heap.size 3 1) (by simp)⟩

set_option maxRecDepth 100000 in
set_option maxHeartbeats 1000000 in
theorem rCount {W : World} (x : Later W) (v0 v1 v2 : Value) (p : Prob) (hp : IsProb W v0 v1 v2 p) :
    Calls Try.prog 54 #[.agg #[v0, v1, v2]] x.w (Ends W (.tuple #[.int .i64 (countV p), .int .i64 (largeE p)])) := by
  go_enter Try.func54, Try.ntmps54
  go_upto_region 1 with (fail)
  obtain ⟨W1, x1, e1, hb1, s1, p0, p1, p2⟩ := enter3 x v0 v1 v2 26
  rw [e1]; clear e1
  have HP := Lib.hid (hp.below hb1)
  obtain ⟨ap, cp, rfl, lp, _⟩ := hp.panes.opened
  obtain ⟨ao, co, rfl, lo, _⟩ := hp.opts.opened
  obtain ⟨ar, cr, rfl, lr, _⟩ := hp.rules.opened
  clear hp
  by_cases h0 : largeE p = 0
  · have hb0 : (largeE p != 0) = false := by simp [h0]
    have hv := Lib.hid (largeE_0.1 h0)
    have hres : Hid (countV p = (agr p).length ∧ largeE p = 0) := Lib.hid ⟨by simp [countV, h0], h0⟩
    clear h0
    go_wp2_with (first | (go_at_call 82; refine (rlarge x1 _ _ _ p HP.out).mono ?_; rintro e w' ⟨rfl, x1, rfl⟩) | (go_at_call 71; refine (rAgreeing x1 _ _ _ p HP.out hv.out.1 hv.out.2).mono ?_; rintro e w' ⟨v, rfl, x1, rfl, hl⟩; obtain ⟨al, cl, rfl, ll, hll⟩ := hl.is.opened))
    go_ret2
    exact ⟨by rw [hres.out.1, hres.out.2]; rfl, x1.down hb1⟩
  · have hb0 : (largeE p != 0) = true := by simp [h0]
    have hres : Hid (countV p = 0) := Lib.hid (by simp [countV, h0])
    clear h0
    go_wp2_with (go_at_call 82; refine (rlarge x1 _ _ _ p HP.out).mono ?_; rintro e w' ⟨rfl, x1, rfl⟩)
    go_ret2
    exact ⟨by rw [hres.out]; rfl, x1.down hb1⟩
end Go.Proofs.Ytmpkbolabdmkkaa
