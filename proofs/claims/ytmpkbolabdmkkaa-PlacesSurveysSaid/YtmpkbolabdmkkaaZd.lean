/- CONTRACTS of the reference's Agreeing, First, Count. -/
import Derived.Test.YtmpkbolabdmkkaaZc
import Derived.Test.YtmpkbolabdmkkaaZa
namespace Go.Proofs.Ytmpkbolabdmkkaa
open Go.RowKit

set_option maxRecDepth 100000 in
set_option maxHeartbeats 1000000 in
theorem rAgreeing {W : World} (x : Later W) (v0 v1 v2 : Value) (p : Prob) (hp : IsProb W v0 v1 v2 p) (hv : validP p = true) (ht : total p ≤ 65536) :
    Calls Try.prog 71 #[.agg #[v0, v1, v2]] x.w (EndsIntss W (agr p)) := by
  have hV := Lib.hid hv
  have hin : Hid (∀ f, f ∈ fills p → fillB p f = true) := Lib.hid (fun f hf => by obtain ⟨r, _, rfl⟩ := mem_fills.1 hf; exact fill_B hv r)
  clear hv
  go_enter Try.func71, Try.ntmps71
  go_upto_region 1 with (fail)
  obtain ⟨W1, x1, e1, hb1, s1, p0, p1, p2⟩ := enter3 x v0 v1 v2 26
  rw [e1]; clear e1
  have HP := Lib.hid (hp.below hb1)
  obtain ⟨ap, cp, rfl, lp, _⟩ := hp.panes.opened
  obtain ⟨ao, co, rfl, lo, _⟩ := hp.opts.opened
  obtain ⟨ar, cr, rfl, lr, _⟩ := hp.rules.opened
  clear hp
  go_wp2_with (go_at_call 125; refine (rall x1 _ _ _ p HP.out hV.out ht).mono ?_; rintro e w' ⟨v, rfl, y, rfl, hl⟩; obtain ⟨W2, hW2, hb2⟩ : ∃ W2, y.w = W2 ∧ Below W1.heap.size W1 W2 := ⟨_, rfl, y.h⟩; rw [hW2] at hl ⊢; clear hW2; have HL := Lib.hid hl; obtain ⟨al, cl, rfl, ll, hll⟩ := hl.is.opened; clear hl)
  replace p0 := Later.cells hb2 p0
  replace p1 := Later.cells hb2 p1
  replace p2 := Later.cells hb2 p2
  replace s1 := Later.sizes hb2 s1
  have HP2 := Lib.hid (HP.out.below hb2)
  have hflen := fills_len p
  have hfl : (fills p).length ≤ 65536 := by omega
  clear hflen
  go_loopw [3, 5] (fun v i wr => ∃ k : Nat, k ≤ (fills p).length ∧ i = .int .i64 k ∧ ∃ z : Later W2, wr = z.w ∧ OwnIntss z W1.heap.size v (agrTo p k)) (fun _ i _ => (fills p).length - (intOf i).toNat)
  case atStart => exact ⟨0, Nat.zero_le _, rfl, Later.now W2, rfl, OwnIntss.nil _ _⟩
  case round =>
    obtain ⟨k, hk, rfl, ⟨x, rfl, hout⟩⟩ := hrel
    by_cases hlt : k < (fills p).length
    · obtain ⟨a', c', hv', _, hF⟩ := HL.out
      cases hv'
      obtain ⟨b, o, rfl, hb0, _, u, c0, hu⟩ := hF k hlt
      have hb := Later.size hb0
      replace c0 := Later.cell hb0 c0
      clear hF
      have hfB := hin.out _ (nth_mem hlt)
      have HU := Lib.hid hu
      replace hu := hu.is
      have hC := Lib.hid (fun z : Later x.w => ragrees z _ _ _ _ p (nth (fills p) k) (HP2.out.below x.h) (HU.out.is.below x.h) hV.out hfB)
      have hblk := Lib.hid (fun k hk => (hout.block k hk).1)
      obtain ⟨au, cu, rfl, _, _⟩ := hu.opened
      have hle := agrTo_len p k
      clear hfB
      cases hA : agreesB p (nth (fills p) k)
      · have HS := Lib.hid (agrTo_no hlt hA)
        go_wp2
        refine wp_region_since x (by kernel_rfl) (by kernel_rfl) ?_
        repeat (go_big_quiet_step ((go_at_call 102; exact calls_since hC.out)))
        refine wpQuiet_nil ?_
        rintro _ ⟨⟨y, hy⟩, rfl⟩
        replace hout := hout.later hy
        rw [hA]
        go_wp2
        go_roundw
        case rel => exact ⟨k + 1, by omega, by go_num, y, rfl, by rw [HS.out]; exact hout⟩
        case measure => simp [intOf]; omega
      · have HS := Lib.hid (agrTo_yes hlt hA)
        go_wp2
        refine wp_region_since x (by kernel_rfl) (by kernel_rfl) ?_
        repeat (go_big_quiet_step ((go_at_call 102; exact calls_since hC.out)))
        refine wpQuiet_nil ?_
        rintro _ ⟨⟨y, hy⟩, rfl⟩
        replace hout := hout.later hy
        rw [hA]
        go_wp2_with (at_builtin; (refine wpList_appL y rfl _ _ rfl _ _ (by rfl) hout _ (nth (fills p) k) (HU.out.off y.h hblk.out) (by rfl) (by omega) ?_); intro v' z hout' _)
        go_roundw
        case rel => exact ⟨k + 1, by omega, by go_num, z, rfl, by rw [HS.out]; exact hout'⟩
        case measure => simp [intOf]; omega
    · obtain rfl : k = (fills p).length := by omega
      rw [agrTo_all] at hout
      go_wp2
      go_ret
      have hle := agr_len p
      obtain ⟨z, hz⟩ := x.down (hb1.trans (hb2.mono hb1.size))
      exact ⟨_, rfl, z, hz, hz ▸ (hout.is (by omega) hb2.size).mono hb1.size⟩

set_option maxRecDepth 100000 in
set_option maxHeartbeats 1000000 in
theorem rFirst {W : World} (x : Later W) (v0 v1 v2 : Value) (p : Prob) (hp : IsProb W v0 v1 v2 p) :
    Calls Try.prog 52 #[.agg #[v0, v1, v2]] x.w (EndsIntsE W (firstL p) (firstE p)) := by
  go_enter Try.func52, Try.ntmps52
  go_upto_region 1 with (fail)
  obtain ⟨W1, x1, e1, hb1, s1, p0, p1, p2⟩ := enter3 x v0 v1 v2 26
  rw [e1]; clear e1
  have HP := Lib.hid (hp.below hb1)
  obtain ⟨ap, cp, rfl, lp, _⟩ := hp.panes.opened
  obtain ⟨ao, co, rfl, lo, _⟩ := hp.opts.opened
  obtain ⟨ar, cr, rfl, lr, _⟩ := hp.rules.opened
  clear hp
  by_cases h0 : largeE p = 0
  · have hb0 : (largeE p != 0) = false := by simp [h0]
    have hv := Lib.hid (largeE_0.1 h0)
    by_cases hn : (agr p).length = 0
    · have hres : Hid (firstE p = 72 ∧ firstL p = []) := Lib.hid (by have : firstE p = 72 := by simp [firstE, h0, hn]
                                                                     exact ⟨this, by simp [firstL, this]⟩)
      have hn' : (((agr p).length : Int) == 0) = true := by simp [hn]
      clear h0 hn
      go_wp2_with (first | (go_at_call 82; refine (rlarge x1 _ _ _ p HP.out).mono ?_; rintro e w' ⟨rfl, x1, rfl⟩) | (go_at_call 71; refine (rAgreeing x1 _ _ _ p HP.out hv.out.1 hv.out.2).mono ?_; rintro e w' ⟨v, rfl, x1, rfl, hl⟩; obtain ⟨al, cl, rfl, ll, hll⟩ := hl.is.opened))
      go_ret2
      obtain ⟨z, hz⟩ := x1.down hb1
      exact ⟨_, by rw [hres.out.1]; rfl, z, hz, hres.out.2 ▸ isInts_of_owns (l := []) (World.ownsRow_nil _ W1.heap.size 3 1) (by simp)⟩
    · have hn' : (((agr p).length : Int) == 0) = false := by simp; intro h; exact hn (by simp [h])
      have hres : Hid (firstE p = 0 ∧ firstL p = nth (agr p) 0) := Lib.hid (by have : firstE p = 0 := by simp [firstE, h0]; intro h; exact absurd (by simp [h]) hn
                                                                               exact ⟨this, by simp [firstL, this]⟩)
      have hpos : 0 < (agr p).length := by omega
      replace hn := Lib.hid hn
      clear h0
      go_wp2_with (first | (go_at_call 82; refine (rlarge x1 _ _ _ p HP.out).mono ?_; rintro e w' ⟨rfl, x1, rfl⟩) | (go_at_call 71; refine (rAgreeing x1 _ _ _ p HP.out hv.out.1 hv.out.2).mono ?_; rintro e w' ⟨v, rfl, x1, rfl, hl⟩; obtain ⟨al, cl, rfl, ll, hll⟩ := hl.is; obtain ⟨b, o, rfl, hb, u, c0, hu⟩ := hll 0 hpos; simp only [Nat.add_zero] at c0; obtain ⟨au, cu, rfl, _, _⟩ := hu.opened))
      go_ret2
      obtain ⟨z, hz⟩ := x1.down hb1
      refine ⟨.slice au (nth (agr p) 0).length cu, by rw [hres.out.1]; rfl, z, hz, ?_⟩
      rw [← hz, hres.out.2]; exact hu
  · have hb0 : (largeE p != 0) = true := by simp [h0]
    have hres : Hid (firstE p = largeE p ∧ firstL p = []) := Lib.hid (by have : firstE p = largeE p := by simp [firstE, h0]
                                                                         exact ⟨this, by simp [firstL, this, h0]⟩)
    clear h0
    go_wp2_with (go_at_call 82; refine (rlarge x1 _ _ _ p HP.out).mono ?_; rintro e w' ⟨rfl, x1, rfl⟩)
    go_ret2
    obtain ⟨z, hz⟩ := x1.down hb1
    exact ⟨_, by rw [hres.out.1]; rfl, z, hz, hres.out.2 ▸ isInts_of_owns (l := []) (World.ownsRow_nil _ W1.heap.size 3 1) (by simp)⟩

set_option maxRecDepth 100000 in
set_option maxHeartbeats 1000000 in
theorem rCount {W : World} (x : Later W) (v0 v1 v2 : Value) (p : Prob) (hp : IsProb W v0 v1 v2 p) :
    Calls Try.prog 54 #[.agg #[v0, v1, v2]] x.w (Ends W (.tuple #[.int .i64 (countV p), .int .i64 (largeE p)])) := by
  go_enter Try.func54, Try.ntmps54
  go_upto_region 1 with (fail)
  obtain ⟨W1, x1, e1, hb1, s1, p0, p1, p2⟩ := enter3 x v0 v1 v2 26
  rw [e1]; clear e1
  have HP := Lib.hid (hp.below hb1)
  obtain ⟨ap, cp, rfl, lp, _⟩ := hp.panes.opened
  obtain ⟨ao, co, rfl, lo, _⟩ := hp.opts.opened
  obtain ⟨ar, cr, rfl, lr, _⟩ := hp.rules.opened
  clear hp
  by_cases h0 : largeE p = 0
  · have hb0 : (largeE p != 0) = false := by simp [h0]
    have hv := Lib.hid (largeE_0.1 h0)
    have hres : Hid (countV p = (agr p).length ∧ largeE p = 0) := Lib.hid ⟨by simp [countV, h0], h0⟩
    clear h0
    go_wp2_with (first | (go_at_call 82; refine (rlarge x1 _ _ _ p HP.out).mono ?_; rintro e w' ⟨rfl, x1, rfl⟩) | (go_at_call 71; refine (rAgreeing x1 _ _ _ p HP.out hv.out.1 hv.out.2).mono ?_; rintro e w' ⟨v, rfl, x1, rfl, hl⟩; obtain ⟨al, cl, rfl, ll, hll⟩ := hl.is.opened))
    go_ret2
    exact ⟨by rw [hres.out.1, hres.out.2]; rfl, x1.down hb1⟩
  · have hb0 : (largeE p != 0) = true := by simp [h0]
    have hres : Hid (countV p = 0) := Lib.hid (by simp [countV, h0])
    clear h0
    go_wp2_with (go_at_call 82; refine (rlarge x1 _ _ _ p HP.out).mono ?_; rintro e w' ⟨rfl, x1, rfl⟩)
    go_ret2
    exact ⟨by rw [hres.out]; rfl, x1.down hb1⟩
end Go.Proofs.Ytmpkbolabdmkkaa

/- CONTRACTS of the reference's none, Possible. -/
namespace Go.Proofs.Ytmpkbolabdmkkaa
open Go.RowKit

set_option maxRecDepth 100000 in
set_option maxHeartbeats 1000000 in
theorem rnone {W : World} (x : Later W) (v0 v1 v2 : Value) (p : Prob) (b : Bool) (hp : IsProb W v0 v1 v2 p) (hn : p.opts.length ≤ 65536) :
    Calls Try.prog 107 #[.agg #[v0, v1, v2], .bool b] x.w (EndsTab W (fullTab p b)) := by
  go_enter Try.func107, Try.ntmps107
  go_upto_region 1 with (fail)
  obtain ⟨W1, x1, e1, hb1, s1, p0, p1, p2⟩ := enter3 x v0 v1 v2 26
  rw [e1]; clear e1
  obtain ⟨ao, co, rfl, lo, hopts⟩ := (hp.opts.below hb1).opened
  clear hp
  go_wp2
  go_loopw [5, 6] (fun v i wr => ∃ k : Nat, k ≤ p.opts.length ∧ i = .int .i64 k ∧ ∃ y : Later W1, wr = y.w ∧ ∃ vs, OwnTab y v (fullTo p b k) vs) (fun _ i _ => p.opts.length - (intOf i).toNat)
  case atStart => exact ⟨0, Nat.zero_le _, rfl, x1, rfl, [], OwnTab.nil _⟩
  case round =>
    obtain ⟨k, hk, rfl, ⟨x, rfl, vs, hout⟩⟩ := hrel
    by_cases hlt : k < p.opts.length
    · obtain ⟨bo, oo, rfl, hbo, u, c0, hu⟩ := hopts.out k hlt
      obtain ⟨au, cu, rfl, lu, _⟩ := hu.opened
      have HS := Lib.hid (fullTo_succ p b hlt)
      have hlen := fullTo_len p b (Nat.le_of_lt hlt)
      replace hlen := Lib.hid hlen
      have hlt2 := Lib.hid hout.block
      have q1 := Later.cells x.h p1
      have r0 := Later.cells x.h c0
      have rb := Later.sizes x.h hbo
      have sb := Later.sizes x.h s1
      go_wp2
      go_loopw [7, 8] (fun v i wr => ∃ m : Nat, m ≤ (nth p.opts k).length ∧ i = .int .i64 m ∧ ∃ y : Later x.w, wr = y.w ∧ y.w.ownsRow x.w.heap.size 4 1 v m ((List.replicate m b).map Value.bool)) (fun _ i _ => (nth p.opts k).length - (intOf i).toNat)
      case atStart => exact ⟨0, Nat.zero_le _, rfl, Later.now x.w, rfl, World.ownsRow_nil _ _ _ _⟩
      case round =>
        obtain ⟨m, hm, rfl, ⟨y, rfl, hrow⟩⟩ := hrel
        replace hrow := Lib.hid hrow
        by_cases hlt' : m < (nth p.opts k).length
        · have HR : Hid ((List.replicate (m + 1) b).map Value.bool = (List.replicate m b).map Value.bool ++ [.bool b]) := Lib.hid (by rw [List.replicate_succ', List.map_append]; rfl)
          go_wp2_with (at_builtin; refine wpList_app1 y 52 4 _ 1 Try.info4 rfl Try.underlying52 rfl _ _ rfl _ _ _ (by rfl) hrow.out _ (by rfl) (by rfl) (by omega) (by omega) ?_; intro v' z hrow' _)
          go_roundw
          case rel => exact ⟨m + 1, by omega, by go_num, z, rfl, by rw [HR.out]; exact hrow'⟩
          case measure => simp [intOf]; omega
        · obtain rfl : m = (nth p.opts k).length := by omega
          have hrow2 := hrow.out
          clear hrow
          obtain ⟨A, c, rfl⟩ := owns_slice hrow2
          have hrow3 := Lib.hid (owns_len hrow2)
          have hout2 := Lib.hid (hout.later (z := x.up y) y.h)
          clear hrow2 hout
          go_wp2_with (at_builtin; refine wpList_appTab (x.up y) rfl _ _ rfl _ _ _ (by rfl) hout2.out _ (List.replicate (nth p.opts k).length b) x.w.heap.size x.h.size hrow3.out hlt2.out (by rfl) (by rw [hlen.out]; omega) ?_; intro v' z hout')
          go_roundw
          case rel => exact ⟨k + 1, by omega, by go_num, z, rfl, _, by rw [HS.out]; exact hout'⟩
          case measure => simp [intOf]; omega
    · obtain rfl : k = p.opts.length := by omega
      go_wp2
      go_ret
      obtain ⟨z, hz, ht⟩ := hout.down hb1
      exact ⟨_, rfl, z, hz, vs, ht⟩
end Go.Proofs.Ytmpkbolabdmkkaa

/- CONTRACT of the reference's Possible. -/
namespace Go.Proofs.Ytmpkbolabdmkkaa
open Go.RowKit

theorem Later.drew1 {W : World} (z : Later W) : ∃ z' : Later W, z.w.drew = z'.w ∧ Below z.w.heap.size z.w z'.w := ⟨⟨_, z.h.drew⟩, rfl, (Below.refl _ _).drew⟩

theorem possT_len (p : Prob) (k : Nat) : (marksTo (fullTab p false) (agr p) p.opts.length k).length = p.opts.length := by
  rw [(marksTo_shape _ _ _ k).1]; exact fullTo_len p false (Nat.le_refl _)
theorem possT_row (p : Prob) (k m : Nat) (l : List Int) {i : Nat} (hi : i < p.opts.length) : (nth (markTo (marksTo (fullTab p false) (agr p) p.opts.length k) l m) i).length = (nth p.opts i).length := by
  rw [(markTo_shape _ _ m).2, (marksTo_shape _ _ _ k).2]; unfold fullTab; rw [nth_fullTo p false (Nat.le_refl _) hi, List.length_replicate]

set_option maxRecDepth 100000 in
set_option maxHeartbeats 1000000 in
theorem rPossible {W : World} (x : Later W) (v0 v1 v2 : Value) (p : Prob) (hp : IsProb W v0 v1 v2 p) :
    Calls Try.prog 55 #[.agg #[v0, v1, v2]] x.w (EndsTabE W (possL p) (largeE p)) := by
  go_enter Try.func55, Try.ntmps55
  go_upto_region 1 with (fail)
  obtain ⟨W1, x1, e1, hb1, s1, p0, p1, p2⟩ := enter3 x v0 v1 v2 26
  rw [e1]; clear e1
  have HP := Lib.hid (hp.below hb1)
  obtain ⟨ap, cp, rfl, lp, _⟩ := hp.panes.opened
  obtain ⟨ao, co, rfl, lo, _⟩ := hp.opts.opened
  obtain ⟨ar, cr, rfl, lr, _⟩ := hp.rules.opened
  clear hp
  by_cases h0 : largeE p = 0
  case neg =>
    have hb0 : (largeE p != 0) = true := by simp [h0]
    have hres : Hid (possL p = []) := Lib.hid (by simp [possL, h0])
    clear h0
    go_wp2_with (go_at_call 82; refine (rlarge x1 _ _ _ p HP.out).mono ?_; rintro e w' ⟨rfl, x1, rfl⟩)
    go_ret2
    obtain ⟨z, hz⟩ := x1.down hb1
    exact ⟨_, rfl, z, hz, hres.out ▸ isBoolss_nil _⟩
  have hb0 : (largeE p != 0) = false := by simp [h0]
  have hv := Lib.hid (largeE_0.1 h0)
  have hres : Hid (possL p = possT p ∧ largeE p = 0) := Lib.hid ⟨by simp [possL, h0], h0⟩
  have hn : p.opts.length ≤ 65536 := by have := valid_pane64 hv.out.1; have := valid_len hv.out.1; omega
  have hmem := Lib.hid (fun f (hf : f ∈ agr p) => agr_mem hv.out.1 hf)
  clear h0
  go_wp2_with (first | (go_at_call 82; refine (rlarge x1 _ _ _ p HP.out).mono ?_; rintro e w' ⟨rfl, x1, rfl⟩) | (go_at_call 107; refine (rnone x1 _ _ _ p false HP.out hn).mono ?_; rintro e w' ⟨v, rfl, x2, rfl, vs, ht⟩; obtain ⟨at_, ct, rfl⟩ := ht.slice) | (go_at_call 71; refine (rAgreeing (Later.now x2.w) _ _ _ p (HP.out.below x2.h) hv.out.1 hv.out.2).mono ?_; rintro e w' ⟨v, rfl, y, rfl, hl⟩; obtain ⟨al, cl, rfl, ll, _⟩ := hl.is.opened))
  obtain ⟨N, hN⟩ : ∃ N, N = x2.w.heap.size := ⟨_, rfl⟩
  have htN : Hid (∀ (i : Nat) (q : Value) (b : Nat), vs[i]? = some q → q.ownBlock = some b → b < N) := Lib.hid (hN ▸ ht.block)
  rw [← hN] at hl
  replace ht := ht.later (z := x2.up y) y.h
  clear hN
  have hflen : (fullTab p false).length = p.opts.length := fullTo_len p false (Nat.le_refl _)
  rw [hflen]
  clear hflen
  go_loopw [7] (fun i wr => ∃ k : Nat, k ≤ (agr p).length ∧ i = .int .i64 k ∧ ∃ z : Later W1, wr = z.w ∧ OwnTab z (.slice at_ p.opts.length ct) (marksTo (fullTab p false) (agr p) p.opts.length k) vs ∧ IsIntssF N z.w (.slice al (agr p).length cl) (agr p)) (fun i _ => (agr p).length - (intOf i).toNat)
  case atStart => exact ⟨0, Nat.zero_le _, rfl, x2.up y, rfl, by rw [show p.opts.length = (fullTab p false).length from (fullTo_len p false (Nat.le_refl _)).symm]; exact ht, hl⟩
  case round =>
    clear ht hl
    obtain ⟨k, hk, rfl, x, rfl, ht, hl⟩ := hrel
    by_cases hlt : k < (agr p).length
    · obtain ⟨h1, h2, h3, _⟩ := hmem.out _ (nth_mem hlt)
      replace h2 := Lib.hid h2
      replace h3 := Lib.hid h3
      clear h1
      have hl0 := hl
      obtain ⟨al', cl', hv', _, hF⟩ := hl0
      cases hv'
      obtain ⟨b, o, rfl, hb, _, u, c0, hu⟩ := hF k hlt
      obtain ⟨au, cu, rfl, lu, hu'⟩ := hu
      clear hF hu'
      go_wp2
      go_loopw [8] (fun i wr => ∃ m : Nat, m ≤ (nth (agr p) k).length ∧ i = .int .i64 m ∧ ∃ z : Later W1, wr = z.w ∧ OwnTab z (.slice at_ p.opts.length ct) (markTo (marksTo (fullTab p false) (agr p) p.opts.length k) (nth (agr p) k) m) vs ∧ IsIntssF N z.w (.slice (some ⟨b, o, none⟩) (agr p).length cl) (agr p)) (fun i _ => (nth (agr p) k).length - (intOf i).toNat)
      case atStart => exact ⟨0, Nat.zero_le _, rfl, x, rfl, ht, hl⟩
      case round =>
        clear ht hl c0 hb
        obtain ⟨m, hm, rfl, x, rfl, ht, hl⟩ := hrel
        have HL := Lib.hid hl
        obtain ⟨al', cl', hv', _, hF⟩ := hl
        cases hv'
        obtain ⟨_, _, he, hb, _, u, c0, hu⟩ := hF k hlt
        cases he
        obtain ⟨au', cu', rfl, lu', hu'⟩ := hu
        by_cases hlt' : m < (nth (agr p) k).length
        · obtain ⟨b2, o2, rfl, hb2, _, d0⟩ := hu' m hlt'
          have hmo : m < p.opts.length := by have := h2.out; omega
          have hfm := h3.out m hlt'
          have htl : (markTo (marksTo (fullTab p false) (agr p) p.opts.length k) (nth (agr p) k) m).length = p.opts.length := (markTo_shape _ _ m).1.trans (possT_len p k)
          have hrl := possT_row p k m (nth (agr p) k) hmo
          obtain ⟨g, c2, q, hv2, hg, hq, e0, _, hrow⟩ := ht.at_ (i := m) (by rw [htl]; exact hmo)
          rw [htl] at hv2
          cases hv2
          obtain ⟨g', c3, rfl, hg', f0, f1, hset⟩ := hrow (nth (nth (agr p) k) m).toNat (by rw [hrl]; omega)
          obtain ⟨z, hz, ht'⟩ := hset true
          have hgN := htN.out m _ g' hq rfl
          have hl' : IsIntssF N z.w (.slice (some ⟨b, o, none⟩) (agr p).length cl) (agr p) := hz ▸ HL.out.setCell hgN _
          obtain ⟨z', hz', hzb⟩ := z.drew1
          replace ht' := Lib.hid (ht'.later hzb)
          replace hl' := Lib.hid (hl'.later hzb)
          rw [hrl] at *
          clear hset hrow hq hgN hu' hF ht hrl
          clear htl
          go_wp2
          go_still_tail 12, (by kernel_rfl)
          go_wp2
          go_roundw
          case rel => exact ⟨m + 1, by omega, by go_num, z', rfl, ht'.out, hl'.out⟩
          case measure => simp [intOf]; omega
        · obtain rfl : m = (nth (agr p) k).length := by omega
          clear hu' hF
          go_wp2
          go_roundw
          case rel => exact ⟨k + 1, by omega, by go_num, x, rfl, (congrArg (fun q => OwnTab x (.slice at_ p.opts.length ct) (markTo (marksTo (fullTab p false) (agr p) p.opts.length k) (nth (agr p) k) q) vs) h2.out).mp ht, HL.out⟩
          case measure => simp [intOf]; omega
    · obtain rfl : k = (agr p).length := by omega
      go_wp2
      go_ret2
      obtain ⟨z, hz, ht'⟩ := ht.down hb1
      refine ⟨_, by rw [hres.out.2]; rfl, z, hz, ?_⟩
      rw [hres.out.1]
      have hpl := possT_len p (agr p).length
      exact ht'.is (by show (possT p).length ≤ _; unfold possT; rw [hpl]; omega) (fun i hi => by
        rw [hpl] at hi
        have e := possT_row p (agr p).length 0 [] hi
        have e2 : (nth (possT p) i).length = (nth p.opts i).length := e
        show (nth (possT p) i).length ≤ _
        rw [e2]; have := valid_opts hv.out.1 hi; omega)
end Go.Proofs.Ytmpkbolabdmkkaa

/- CONTRACTS of the reference's less, there, Next, Witness. -/
namespace Go.Proofs.Ytmpkbolabdmkkaa
open Go.RowKit

set_option maxRecDepth 100000 in
set_option maxHeartbeats 1000000 in
theorem rless {W : World} (x : Later W) (va vb : Value) (a b : List Int) (ha : IsInts W va a) (hb : IsInts W vb b) (hlen : a.length ≤ b.length) :
    Calls Try.prog 113 #[va, vb] x.w (Ends W (.bool (lessB a b))) := by
  have HS := Lib.hid (fun n i h => @lessTo_yes a b n i h)
  have HN := Lib.hid (fun n i h => @lessTo_no a b n i h)
  replace hlen := Lib.hid hlen
  obtain ⟨aa, ca, rfl, la, hA⟩ := ha.opened
  obtain ⟨ab, cb, rfl, lb, hB⟩ := hb.opened
  clear ha hb
  go_enter Try.func113, Try.ntmps113
  go_wp2
  go_loopw [5] (fun i wr => ∃ k : Nat, k ≤ a.length ∧ i = .int .i64 k ∧ (∃ y : Later W, wr = y.w) ∧ lessB a b = lessTo a b (a.length - k) k) (fun i _ => a.length - (intOf i).toNat)
  case atStart => exact ⟨0, Nat.zero_le _, rfl, ⟨x, rfl⟩, rfl⟩
  case round =>
    obtain ⟨k, hk, rfl, ⟨x, rfl⟩, hres⟩ := hrel
    replace hres := Lib.hid hres
    by_cases hlt : k < a.length
    · have hltb : k < b.length := by have := hlen.out; omega
      obtain ⟨b1, o1, rfl, hb1, c1⟩ := hA.out k hlt
      obtain ⟨b2, o2, rfl, hb2, c2⟩ := hB.out k hltb
      have e : a.length - k = (a.length - (k + 1)) + 1 := by omega
      replace e := Lib.hid e
      go_wp2
      refine wp_region_later x (by kernel_rfl) (by kernel_rfl) ?_
      repeat (go_big_quiet_step (fail))
      refine wpQuiet_nil ?_
      rintro _ ⟨x, rfl⟩
      go_wp2
      · refine wp_region_later x (by kernel_rfl) (by kernel_rfl) ?_
        repeat (go_big_quiet_step (fail))
        refine wpQuiet_nil ?_
        rintro _ ⟨x, rfl⟩
        go_wp2
        go_ret
        exact ⟨ret_bool (by rw [hres.out, e.out, HS.out _ _ (ne_bneI (by assumption))]), x, rfl⟩
      · go_roundw
        case rel => exact ⟨k + 1, by omega, by go_num, ⟨x, rfl⟩, by rw [hres.out, e.out, HN.out _ _ (eq_bneI (by assumption))]⟩
        case measure => simp [intOf]; omega
    · obtain rfl : k = a.length := by omega
      go_wp2
      go_ret
      exact ⟨ret_bool (by rw [hres.out, Nat.sub_self]; rfl), x, rfl⟩

set_option maxRecDepth 100000 in
set_option maxHeartbeats 1000000 in
theorem rthere {W : World} (x : Later W) (v0 v1 v2 : Value) (p : Prob) (pane o : Int) (hp : IsProb W v0 v1 v2 p) (hlen : p.opts.length = p.panes.length) :
    Calls Try.prog 69 #[.agg #[v0, v1, v2], .int .i64 pane, .int .i64 o] x.w (Ends W (.bool (thereB p pane o))) := by
  replace hlen := Lib.hid hlen
  go_enter Try.func69, Try.ntmps69
  go_upto_region 1 with (fail)
  obtain ⟨W1, x1, e1, hb1, s1, p0, p1, p2⟩ := enter3 x v0 v1 v2 26
  rw [e1]; clear e1
  obtain ⟨ap, cp, rfl, lp, _⟩ := (hp.panes.below hb1).opened
  obtain ⟨ao, co, rfl, lo, hopts⟩ := (hp.opts.below hb1).opened
  clear hp
  cases hA : wi pane 0 ((p.panes.length : Int) - 1)
  · have hres : Hid (thereB p pane o = false) := Lib.hid (by simp [thereB, hA])
    go_wp2_with (go_at_call 85; refine (rwithin _ _ _ _).mono ?_; rintro e w' ⟨rfl, rfl⟩)
    go_ret; exact ⟨ret_bool hres.out.symm, x1.down hb1⟩
  · have hA' := wi_iff.1 hA
    have hres : Hid (thereB p pane o = wi o 0 (((nth p.opts pane.toNat).length : Int) - 1)) := Lib.hid (by simp [thereB, hA])
    have hidx : pane.toNat < p.opts.length := by have := hlen.out; omega
    obtain ⟨bo, oo, rfl, hbo, uo, co0, hO⟩ := hopts.out pane.toNat hidx
    obtain ⟨av, cv, rfl, lv, _⟩ := hO.opened
    go_wp2_with (go_at_call 85; refine (rwithin _ _ _ _).mono ?_; rintro e w' ⟨rfl, rfl⟩)
    go_ret; exact ⟨ret_bool hres.out.symm, x1.down hb1⟩

set_option maxRecDepth 100000 in
set_option maxHeartbeats 1000000 in
theorem rNext {W : World} (x : Later W) (v0 v1 v2 vf : Value) (p : Prob) (f : List Int) (hp : IsProb W v0 v1 v2 p) (hf : IsInts W vf f) :
    Calls Try.prog 53 #[.agg #[v0, v1, v2], vf] x.w (EndsIntsE W (nextL p f) (nextE p f)) := by
  go_enter Try.func53, Try.ntmps53
  go_upto_region 1 with (fail)
  obtain ⟨W1, x1, e1, hb1, s1, p0, p1, p2⟩ := enter3 x v0 v1 v2 26
  rw [e1]; clear e1
  have HP := Lib.hid (hp.below hb1)
  have HF := Lib.hid (hf.below hb1)
  obtain ⟨ap, cp, rfl, lp, _⟩ := hp.panes.opened
  obtain ⟨ao, co, rfl, lo, _⟩ := hp.opts.opened
  obtain ⟨ar, cr, rfl, lr, _⟩ := hp.rules.opened
  clear hp
  by_cases h0 : wrongC p f = 0
  case neg =>
    have hb0 : (wrongC p f != 0) = true := by simp [h0]
    have hres : Hid (nextE p f = wrongC p f ∧ nextL p f = []) := Lib.hid (by have : nextE p f = wrongC p f := by simp [nextE, h0]
                                                                             exact ⟨this, by simp [nextL, this, h0]⟩)
    clear h0
    go_wp2_with (go_at_call 92; refine (rchecked x1 _ _ _ _ p f HP.out HF.out).mono ?_; rintro e w' ⟨rfl, x1, rfl⟩)
    go_ret2
    obtain ⟨z, hz⟩ := x1.down hb1
    exact ⟨_, by rw [hres.out.1]; rfl, z, hz, hres.out.2 ▸ isInts_of_owns (l := []) (World.ownsRow_nil _ W1.heap.size 3 1) (by simp)⟩
  have hb0 : (wrongC p f != 0) = false := by simp [h0]
  obtain ⟨hv, hfl⟩ := wrongC_iff.1 h0
  have h300 := Lib.hid (fun i (hi : i < p.opts.length) => Nat.le_trans (valid_opts hv hi).2 (show 256 ≤ 300 by decide))
  have hgt := rspace_gt hv
  by_cases ht : 65536 < total p
  · have hA : decide (65536 < rspace p) = true := by simpa [hgt] using ht
    have hres : Hid (nextE p f = 2 ∧ nextL p f = []) := Lib.hid (by have : nextE p f = 2 := by simp [nextE, h0, ht]
                                                                    exact ⟨this, by simp [nextL, this]⟩)
    clear h0 hgt hv hfl ht
    go_wp2_with (first | (go_at_call 92; refine (rchecked x1 _ _ _ _ p f HP.out HF.out).mono ?_; rintro e w' ⟨rfl, x1, rfl⟩) | (go_at_call 70; refine (rspace_walk x1 _ _ _ p HP.out h300.out).mono ?_; rintro e w' ⟨rfl, x1, rfl⟩))
    go_ret2
    obtain ⟨z, hz⟩ := x1.down hb1
    exact ⟨_, by rw [hres.out.1]; rfl, z, hz, hres.out.2 ▸ isInts_of_owns (l := []) (World.ownsRow_nil _ W1.heap.size 3 1) (by simp)⟩
  have hA : decide (65536 < rspace p) = false := by simpa [hgt] using ht
  have hE : Hid (nextE p f = if ((agr p).find? (lessB f)).isSome then 0 else 3) := Lib.hid (by simp [nextE, h0, ht])
  have HV := Lib.hid hv
  have HT : Hid (total p ≤ 65536) := Lib.hid (by omega)
  have hmem : Hid (∀ g, g ∈ agr p → f.length ≤ g.length) := Lib.hid (fun g hg => by rw [(agr_mem hv hg).2.1, (fillB_iff.1 hfl).1, valid_len hv]; exact Nat.le_refl _)
  have hfnd := Lib.hid (fun k => @find_at (agr p) (lessB f) k)
  have hnon := Lib.hid (@find_none (agr p) (lessB f))
  clear h0 hgt hv hfl ht
  go_wp2_with (first | (go_at_call 92; refine (rchecked x1 _ _ _ _ p f HP.out HF.out).mono ?_; rintro e w' ⟨rfl, x1, rfl⟩) | (go_at_call 70; refine (rspace_walk x1 _ _ _ p HP.out h300.out).mono ?_; rintro e w' ⟨rfl, x1, rfl⟩) | (go_at_call 71; refine (rAgreeing x1 _ _ _ p HP.out HV.out HT.out).mono ?_; rintro e w' ⟨v, rfl, y, rfl, hl⟩; obtain ⟨W2, hW2, hb2⟩ : ∃ W2, y.w = W2 ∧ Below W1.heap.size W1 W2 := ⟨_, rfl, y.h⟩; rw [hW2] at hl ⊢; clear hW2; obtain ⟨al, cl, rfl, ll, hll⟩ := hl.is.opened; clear hl))
  go_loopw [8] (fun i wr => ∃ k : Nat, k ≤ (agr p).length ∧ i = .int .i64 k ∧ (∃ y : Later W2, wr = y.w) ∧ (∀ i, i < k → lessB f (nth (agr p) i) = false)) (fun i _ => (agr p).length - (intOf i).toNat)
  case atStart => exact ⟨0, Nat.zero_le _, rfl, ⟨Later.now W2, rfl⟩, by omega⟩
  case round =>
    obtain ⟨k, hk, rfl, ⟨x, rfl⟩, hno⟩ := hrel
    replace hno := Lib.hid hno
    by_cases hlt : k < (agr p).length
    · obtain ⟨b, o, rfl, hb, u, c0, hu⟩ := hll.out k hlt
      have hC := Lib.hid (fun x : Later W2 => rless x _ _ f (nth (agr p) k) (HF.out.below hb2) hu (hmem.out _ (nth_mem hlt)))
      have HU := Lib.hid hu
      obtain ⟨au, cu, rfl, _, _⟩ := hu.opened
      clear hu
      cases hA : lessB f (nth (agr p) k)
      · go_wp2_with (go_at_call 113; refine (hC.out x).mono ?_; rintro e w' ⟨rfl, x, rfl⟩)
        go_roundw
        case rel => exact ⟨k + 1, by omega, by go_num, ⟨x, rfl⟩, all_step hno.out hA⟩
        case measure => simp [intOf]; omega
      · go_wp2_with (go_at_call 113; refine (hC.out x).mono ?_; rintro e w' ⟨rfl, x, rfl⟩)
        go_ret2
        have hs := hfnd.out k hlt hA hno.out
        have e1 : nextE p f = 0 := by rw [hE.out, hs]; rfl
        obtain ⟨z, hz⟩ := x.down (hb1.trans (hb2.mono hb1.size))
        refine ⟨_, by rw [e1]; rfl, z, hz, ?_⟩
        have e2 : nextL p f = nth (agr p) k := by unfold nextL; rw [if_pos e1, hs]; rfl
        rw [e2, ← hz]; exact HU.out.below x.h
    · obtain rfl : k = (agr p).length := by omega
      go_wp2
      go_ret2
      have hs := hnon.out hno.out
      have e1 : nextE p f = 3 := by rw [hE.out, hs]; rfl
      have e2 : nextL p f = [] := by unfold nextL; rw [if_neg (by rw [e1]; decide)]
      obtain ⟨z, hz⟩ := x.down (hb1.trans (hb2.mono hb1.size))
      exact ⟨_, by rw [e1]; rfl, z, hz, e2 ▸ isInts_of_owns (l := []) (World.ownsRow_nil _ W1.heap.size 3 1) (by simp)⟩
end Go.Proofs.Ytmpkbolabdmkkaa
