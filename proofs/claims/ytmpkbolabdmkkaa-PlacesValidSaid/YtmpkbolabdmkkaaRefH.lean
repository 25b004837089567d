/- CONTRACTS of the reference's Breaks, violates, Violates. -/
import Derived.Test.YtmpkbolabdmkkaaRefG
namespace Go.Proofs.Ytmpkbolabdmkkaa
open Go.RowKit

theorem breaksTo_yes {p : Prob} {f : List Int} {k : Nat} (h : keepsB (nth p.rules k) f = false) : breaksTo p f (k + 1) = breaksTo p f k ++ [(k : Int)] := by
  show (if _ then _ else _) = _; rw [if_neg (by simp [h])]
theorem breaksTo_no {p : Prob} {f : List Int} {k : Nat} (h : keepsB (nth p.rules k) f = true) : breaksTo p f (k + 1) = breaksTo p f k := by
  show (if _ then _ else _) = _; rw [if_pos h]

set_option maxRecDepth 100000 in
set_option maxHeartbeats 1000000 in
theorem rBreaks {W : World} (x : Later W) (v0 v1 v2 vf : Value) (p : Prob) (f : List Int) (hp : IsProb W v0 v1 v2 p) (hf : IsInts W vf f) :
    Calls Try.prog 38 #[.agg #[v0, v1, v2], vf] x.w (EndsIntsE W (brkL p f) (wrongC p f)) := by
  go_enter Try.func38, Try.ntmps38
  go_upto_region 1 with (fail)
  obtain ⟨W1, x1, e1, hb1, s1, p0, p1, p2⟩ := enter3 x v0 v1 v2 26
  rw [e1]; clear e1
  have HP := Lib.hid (hp.below hb1)
  have HF := Lib.hid (hf.below hb1)
  obtain ⟨ap, cp, rfl, lp, _⟩ := hp.panes.opened
  obtain ⟨ao, co, rfl, lo, _⟩ := hp.opts.opened
  obtain ⟨ar, cr, rfl, lr, hr⟩ := HP.out.rules.opened
  clear hp hf
  by_cases h0 : wrongC p f = 0
  · have hw : (wrongC p f == 0) = true := by simp [h0]
    have hv := Lib.hid (wrongC_iff.1 h0)
    have hres : Hid (brkL p f = breaksL p f) := Lib.hid (by simp [brkL, h0])
    have hfit := Lib.hid (fun i (hi : i < p.rules.length) => fits_of hv.out.1 hv.out.2 hi)
    clear h0
    go_wp2_with (go_at_call 92; refine (rchecked x1 _ _ _ _ p f HP.out HF.out).mono ?_; rintro e w' ⟨rfl, x1, rfl⟩)
    go_loopw [7, 8] (fun v i wr => ∃ k : Nat, k ≤ p.rules.length ∧ i = .int .i64 k ∧ (∃ y : Later W1, wr = y.w ∧ y.w.ownsRow W1.heap.size 3 1 v (breaksTo p f k).length ((breaksTo p f k).map (Value.int .i64)))) (fun _ i _ => p.rules.length - (intOf i).toNat)
    case atStart => exact ⟨0, Nat.zero_le _, rfl, ⟨x1, rfl, World.ownsRow_nil _ _ _ _⟩⟩
    case round =>
      obtain ⟨k, hk, rfl, ⟨x, rfl, hown⟩⟩ := hrel
      have hle := breaksTo_len p f k
      by_cases hlt : k < p.rules.length
      · obtain ⟨b, o, rfl, hb, u2, u3, u6, c0, c1, c2, c3, c4, c5, c6, hR⟩ := hr.out k hlt
        have HR := Lib.hid hR
        obtain ⟨aq, cq, rfl, _, _⟩ := hR.panes.opened
        obtain ⟨ah, ch, rfl, _, _⟩ := hR.hits.opened
        obtain ⟨ak, ck, rfl, _, _⟩ := hR.ok.opened
        clear hR
        have hC := Lib.hid (rkeeps (Later.now x.w) _ _ _ _ p (nth p.rules k) f (HR.out.below x.h) (HF.out.below x.h) (hfit.out k hlt))
        cases hA : keepsB (nth p.rules k) f
        · have HS := Lib.hid (breaksTo_yes hA)
          go_wp2_with (first | (go_at_call 98; refine (calls_on x hC.out).mono ?_; rintro e w' ⟨rfl, y, rfl, hy⟩; replace hown := owns_later hown hy) | (at_builtin; refine wpList_app1 y 22 3 _ 8 Try.info3 rfl Try.underlying22 rfl _ _ rfl _ _ _ (by rfl) hown _ (by rfl) (by rfl) (by omega) (by omega) ?_; intro v' x hown' hgr))
          go_roundw
          case rel => exact ⟨k + 1, by omega, by go_num, ⟨x, rfl, owns_step hown' HS.out⟩⟩
          case measure => simp [intOf]; omega
        · have HS := Lib.hid (breaksTo_no hA)
          go_wp2_with (go_at_call 98; refine (calls_on x hC.out).mono ?_; rintro e w' ⟨rfl, y, rfl, hy⟩; replace hown := owns_later hown hy)
          go_roundw
          case rel => exact ⟨k + 1, by omega, by go_num, ⟨y, rfl, by rw [HS.out]; exact hown⟩⟩
          case measure => simp [intOf]; omega
      · obtain rfl : k = p.rules.length := by omega
        go_wp2
        go_ret2
        obtain ⟨z, hz⟩ := x.down hb1
        exact ⟨_, rfl, z, hz, hz ▸ (hres.out ▸ isInts_of_owns hown (by omega))⟩
  · have hw : (wrongC p f == 0) = false := by simp [h0]
    have hres : Hid (brkL p f = []) := Lib.hid (by simp [brkL, h0])
    clear h0
    go_wp2_with (go_at_call 92; refine (rchecked x1 _ _ _ _ p f HP.out HF.out).mono ?_; rintro e w' ⟨rfl, x1, rfl⟩)
    go_loopw [7, 8] (fun v i wr => v = .slice none 0 0 ∧ i = .int .i64 0 ∧ (∃ y : Later W1, wr = y.w)) (fun _ _ _ => 0)
    case atStart => exact ⟨rfl, rfl, ⟨x1, rfl⟩⟩
    case round =>
      obtain ⟨rfl, rfl, ⟨x, rfl⟩⟩ := hrel
      cases hz : decide (0 < p.rules.length) <;> go_wp2
      all_goals
        go_ret2
        obtain ⟨z, hz⟩ := x.down hb1
        exact ⟨_, rfl, z, hz, hz ▸ (hres.out ▸ isInts_of_owns (l := []) (World.ownsRow_nil _ W1.heap.size 3 1) (by simp))⟩

set_option maxRecDepth 100000 in
set_option maxHeartbeats 1000000 in
theorem rviolates {W : World} (x : Later W) (v0 v1 v2 vf : Value) (p : Prob) (f : List Int) (hp : IsProb W v0 v1 v2 p) (hf : IsInts W vf f) (hv : validP p = true) (hfl : fillB p f = true) :
    Calls Try.prog 100 #[.agg #[v0, v1, v2], vf] x.w (EndsInts W (violL p f)) := by
  have hfit := Lib.hid (fun i (hi : i < p.rules.length) => fits_of hv hfl hi)
  clear hv hfl
  go_enter Try.func100, Try.ntmps100
  go_upto_region 1 with (fail)
  obtain ⟨W1, x1, e1, hb1, s1, p0, p1, p2⟩ := enter3 x v0 v1 v2 26
  rw [e1]; clear e1
  have HF := Lib.hid (hf.below hb1)
  obtain ⟨ar, cr, rfl, lr, hr⟩ := (hp.rules.below hb1).opened
  clear hp hf
  go_wp2
  go_loopw [5, 6] (fun v i wr => ∃ k : Nat, k ≤ p.rules.length ∧ i = .int .i64 k ∧ (∃ y : Later W1, wr = y.w ∧ y.w.ownsRow W1.heap.size 3 1 v (violTo p f k).length ((violTo p f k).map (Value.int .i64)))) (fun _ i _ => p.rules.length - (intOf i).toNat)
  case atStart => exact ⟨0, Nat.zero_le _, rfl, ⟨x1, rfl, World.ownsRow_nil _ _ _ _⟩⟩
  case round =>
    obtain ⟨k, hk, rfl, ⟨x, rfl, hown⟩⟩ := hrel
    have hle := violTo_len p f k
    by_cases hlt : k < p.rules.length
    · obtain ⟨b, o, rfl, hb, u2, u3, u6, c0, c1, c2, c3, c4, c5, c6, hR⟩ := hr.out k hlt
      have HR := Lib.hid hR
      obtain ⟨aq, cq, rfl, _, _⟩ := hR.panes.opened
      obtain ⟨ah, ch, rfl, _, _⟩ := hR.hits.opened
      obtain ⟨ak, ck, rfl, _, _⟩ := hR.ok.opened
      clear hR
      have hC := Lib.hid (fun z : Later x.w => rkeeps z _ _ _ _ p (nth p.rules k) f (HR.out.below x.h) (HF.out.below x.h) (hfit.out k hlt))
      obtain ⟨av, cv, hve, _, hV⟩ := (isInts_of_owns hown (by omega)).opened
      cases hve
      have HY := Lib.hid (@violTo_yes p f k)
      have HN := Lib.hid (@violTo_no p f k)
      cases hA : keepsB (nth p.rules k) f
      · by_cases hL : (violTo p f k).length = 0
        · have hL' : (((violTo p f k).length : Int) == 0) = true := by simp [hL]
          replace HY := Lib.hid (HY.out hA (.inl hL))
          replace hL := Lib.hid hL
          go_wp2
          refine wp_region_since x (by kernel_rfl) (by kernel_rfl) ?_
          repeat (go_big_quiet_step ((go_at_call 98; exact calls_since hC.out)))
          refine wpQuiet_nil ?_
          rintro _ ⟨⟨y, hy⟩, rfl⟩
          replace hown := owns_later hown hy
          go_wp2_with (at_builtin; refine wpList_app1 y 22 3 _ 8 Try.info3 rfl Try.underlying22 rfl _ _ rfl _ _ _ (by rfl) hown _ (by rfl) (by rfl) (by omega) (by omega) ?_; intro v' x hown' hgr)
          go_roundw
          case rel => exact ⟨k + 1, by omega, by go_num, ⟨x, rfl, owns_step hown' HY.out⟩⟩
          case measure => simp [intOf]; omega
        · have hL' : (((violTo p f k).length : Int) == 0) = false := by simp; exact fun h => hL (by simp [h])
          have hL2 : (violTo p f k).length - 1 < (violTo p f k).length := by omega
          have hL3 : 0 < (violTo p f k).length := by omega
          obtain ⟨bv, ov, rfl, hbv, d0⟩ := hV.out _ hL2
          replace d0 := Since.cells d0
          replace hbv := Since.sizes hbv
          replace hL := Lib.hid hL
          go_wp2
          refine wp_region_since x (by kernel_rfl) (by kernel_rfl) ?_
          repeat (go_big_quiet_step ((go_at_call 98; exact calls_since hC.out)))
          refine wpQuiet_nil ?_
          rintro _ ⟨⟨y, hy⟩, rfl⟩
          replace hown := owns_later hown hy
          go_wp2_with (at_builtin; refine wpList_app1 y 22 3 _ 8 Try.info3 rfl Try.underlying22 rfl _ _ rfl _ _ _ (by rfl) hown _ (by rfl) (by rfl) (by omega) (by omega) ?_; intro v' x hown' hgr)
          · go_roundw
            case rel => exact ⟨k + 1, by omega, by go_num, ⟨x, rfl, owns_step hown' (HY.out hA (.inr (ne_bneI (by assumption))))⟩⟩
            case measure => simp [intOf]; omega
          · go_roundw
            case rel => exact ⟨k + 1, by omega, by go_num, ⟨y, rfl, by rw [HN.out (.inr ⟨hL3, eq_bneI (by assumption)⟩)]; exact hown⟩⟩
            case measure => simp [intOf]; omega
      · go_wp2
        refine wp_region_since x (by kernel_rfl) (by kernel_rfl) ?_
        repeat (go_big_quiet_step ((go_at_call 98; exact calls_since hC.out)))
        refine wpQuiet_nil ?_
        rintro _ ⟨⟨y, hy⟩, rfl⟩
        replace hown := owns_later hown hy
        go_wp2
        go_roundw
        case rel => exact ⟨k + 1, by omega, by go_num, ⟨y, rfl, by rw [HN.out (.inl hA)]; exact hown⟩⟩
        case measure => simp [intOf]; omega
    · obtain rfl : k = p.rules.length := by omega
      go_wp2
      go_ret
      obtain ⟨z, hz⟩ := x.down hb1
      exact ⟨_, rfl, z, hz, hz ▸ isInts_of_owns hown (by omega)⟩

set_option maxRecDepth 100000 in
set_option maxHeartbeats 1000000 in
theorem rViolates {W : World} (x : Later W) (v0 v1 v2 vf : Value) (p : Prob) (f : List Int) (hp : IsProb W v0 v1 v2 p) (hf : IsInts W vf f) :
    Calls Try.prog 40 #[.agg #[v0, v1, v2], vf] x.w (EndsIntsE W (vioL p f) (wrongC p f)) := by
  go_enter Try.func40, Try.ntmps40
  go_upto_region 1 with (fail)
  obtain ⟨W1, x1, e1, hb1, s1, p0, p1, p2⟩ := enter3 x v0 v1 v2 26
  rw [e1]; clear e1
  have HP := Lib.hid (hp.below hb1)
  have HF := Lib.hid (hf.below hb1)
  obtain ⟨ap, cp, rfl, lp, _⟩ := hp.panes.opened
  obtain ⟨ao, co, rfl, lo, _⟩ := hp.opts.opened
  obtain ⟨ar, cr, rfl, lr, hr⟩ := HP.out.rules.opened
  clear hp hf
  by_cases h0 : wrongC p f = 0
  · have hw : (wrongC p f != 0) = false := by simp [h0]
    have hv := Lib.hid (wrongC_iff.1 h0)
    have hres : Hid (vioL p f = violL p f ∧ wrongC p f = 0) := Lib.hid (by simp [vioL, h0])
    clear h0
    go_wp2_with (first | (go_at_call 92; refine (rchecked x1 _ _ _ _ p f HP.out HF.out).mono ?_; rintro e w' ⟨rfl, x1, rfl⟩) | (go_at_call 100; refine (rviolates x1 _ _ _ _ p f HP.out HF.out hv.out.1 hv.out.2).mono ?_; rintro e w' ⟨v, rfl, x1, rfl, hI⟩))
    go_ret2
    obtain ⟨z, hz⟩ := x1.down hb1
    exact ⟨_, by rw [hres.out.2]; rfl, z, hz, hz ▸ (hres.out.1 ▸ hI)⟩
  · have hw : (wrongC p f != 0) = true := by simp [h0]
    have hres : Hid (vioL p f = []) := Lib.hid (by simp [vioL, h0])
    clear h0
    go_wp2_with (go_at_call 92; refine (rchecked x1 _ _ _ _ p f HP.out HF.out).mono ?_; rintro e w' ⟨rfl, x1, rfl⟩)
    go_ret2
    obtain ⟨z, hz⟩ := x1.down hb1
    exact ⟨_, rfl, z, hz, hz ▸ (hres.out ▸ isInts_of_owns (l := []) (World.ownsRow_nil _ W1.heap.size 3 1) (by simp))⟩
end Go.Proofs.Ytmpkbolabdmkkaa
