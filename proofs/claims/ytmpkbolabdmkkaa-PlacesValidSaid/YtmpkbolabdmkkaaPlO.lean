/- CONTRACTS of places' asked, has; of the iterator over fillings. -/
import Derived.Test.YtmpkbolabdmkkaaPlJ
import Derived.Test.YtmpkbolabdmkkaaPlL
import Derived.Test.YtmpkbolabdmkkaaPlM
import Derived.Test.YtmpkbolabdmkkaaItr
import Derived.Test.YtmpkbolabdmkkaaFil5
namespace Go.Proofs.Ytmpkbolabdmkkaa
open Go.RowKit

theorem lspace_or {p : Prob} {lim : Int} (h0 : 1 ≤ lim) (h : ∀ i, i < p.opts.length → 1 ≤ dim p i) : ∀ k, k ≤ p.opts.length → lspaceTo lim p.opts k = prodTo p k ∨ (lim < lspaceTo lim p.opts k ∧ lim < (prodTo p k : Int))
  | 0, _ => .inl rfl
  | k + 1, hk => by
    have hd := h k (by omega)
    have e : (nth p.opts k).length = dim p k := rfl
    have hge : prodTo p k ≤ prodTo p (k + 1) := by rw [prodTo_succ]; exact Nat.le_mul_of_pos_right _ hd
    unfold lspaceTo
    rcases lspace_or h0 h k (by omega) with h1 | ⟨h1, h2⟩
    · split
      · left; rw [h1, e, prodTo_succ, Int.natCast_mul]
      · right; omega
    · rw [if_neg (by omega)]; right; omega
theorem lspace_gt {p : Prob} (h : validP p = true) : 65536 < lspaceTo 65536 p.opts p.opts.length ↔ 65536 < total p := by
  rcases lspace_or (lim := 65536) (by decide) (fun _ hi => (valid_dim h hi).1) _ (Nat.le_refl p.opts.length) with h1 | ⟨h1, h2⟩
  · rw [h1]; unfold total; omega
  · unfold total; omega

set_option maxRecDepth 100000 in
set_option maxHeartbeats 1000000 in
theorem pasked {W : World} (x : Later W) (v0 v1 v2 : Value) (p : Prob) (b : Bool) (hp : IsProb W v0 v1 v2 p) :
    Calls Try.prog 65 #[.agg #[v0, v1, v2], .bool b] x.w (Ends W (.int .i64 (askE p b))) := by
  go_enter Try.func65, Try.ntmps65
  go_upto_region 1 with (fail)
  obtain ⟨W1, x1, e1, hb1, s1, p0, p1, p2⟩ := enter3 x v0 v1 v2 26
  rw [e1]; clear e1
  have HP := Lib.hid (hp.below hb1)
  obtain ⟨ap, cp, rfl, lp, _⟩ := hp.panes.opened
  obtain ⟨ao, co, rfl, lo, _⟩ := hp.opts.opened
  obtain ⟨ar, cr, rfl, lr, _⟩ := hp.rules.opened
  clear hp
  cases hv : validP p
  · have hres : Hid (askE p b = 70) := Lib.hid (by simp [askE, hv])
    go_wp2_with (go_at_call 36; refine (pValid x1 _ _ _ p HP.out).mono ?_; rintro e w' ⟨rfl, x1, rfl⟩)
    go_ret; exact ⟨ret_int hres.out.symm, x1.down hb1⟩
  cases b
  · have hres : Hid (askE p false = 1) := Lib.hid (by simp [askE, hv])
    go_wp2_with (go_at_call 36; refine (pValid x1 _ _ _ p HP.out).mono ?_; rintro e w' ⟨rfl, x1, rfl⟩)
    go_ret; exact ⟨ret_int hres.out.symm, x1.down hb1⟩
  have h300 := Lib.hid (fun i (hi : i < p.opts.length) => Nat.le_trans (valid_opts hv hi).2 (show 256 ≤ 300 by decide))
  have hgt := lspace_gt hv
  by_cases ht : 65536 < total p
  · have hA : decide (65536 < lspaceTo 65536 p.opts p.opts.length) = true := by simpa [hgt] using ht
    have hres : Hid (askE p true = 2) := Lib.hid (by simp [askE, hv, ht])
    clear hgt ht
    go_wp2_with (first | (go_at_call 36; refine (pValid x1 _ _ _ p HP.out).mono ?_; rintro e w' ⟨rfl, x1, rfl⟩) | (go_at_call 89; refine (pspace x1 _ _ _ p 65536 HP.out (by decide) (by decide) h300.out).mono ?_; rintro e w' ⟨rfl, x1, rfl⟩))
    go_ret; exact ⟨ret_int hres.out.symm, x1.down hb1⟩
  · have hA : decide (65536 < lspaceTo 65536 p.opts p.opts.length) = false := by simpa [hgt] using ht
    have hres : Hid (askE p true = 0) := Lib.hid (by simp [askE, hv, ht])
    clear hgt ht
    go_wp2_with (first | (go_at_call 36; refine (pValid x1 _ _ _ p HP.out).mono ?_; rintro e w' ⟨rfl, x1, rfl⟩) | (go_at_call 89; refine (pspace x1 _ _ _ p 65536 HP.out (by decide) (by decide) h300.out).mono ?_; rintro e w' ⟨rfl, x1, rfl⟩))
    go_ret; exact ⟨ret_int hres.out.symm, x1.down hb1⟩

set_option maxRecDepth 100000 in
set_option maxHeartbeats 1000000 in
theorem phas {W : World} (x : Later W) (v0 v1 v2 : Value) (p : Prob) (pane o : Int) (hp : IsProb W v0 v1 v2 p) (hlen : p.opts.length = p.panes.length) :
    Calls Try.prog 66 #[.agg #[v0, v1, v2], .int .i64 pane, .int .i64 o] x.w (Ends W (.bool (thereB p pane o))) := by
  replace hlen := Lib.hid hlen
  go_enter Try.func66, Try.ntmps66
  go_upto_region 1 with (fail)
  obtain ⟨W1, x1, e1, hb1, s1, p0, p1, p2⟩ := enter3 x v0 v1 v2 26
  rw [e1]; clear e1
  obtain ⟨ap, cp, rfl, lp, _⟩ := (hp.panes.below hb1).opened
  obtain ⟨ao, co, rfl, lo, hopts⟩ := (hp.opts.below hb1).opened
  clear hp
  cases hA : wi pane 0 ((p.panes.length : Int) - 1)
  · have hres : Hid (thereB p pane o = false) := Lib.hid (by simp [thereB, hA])
    go_wp2_with (go_at_call 94; refine (pwithin _ _ _ _).mono ?_; rintro e w' ⟨rfl, rfl⟩)
    go_ret; exact ⟨ret_bool hres.out.symm, x1.down hb1⟩
  · have hA' := wi_iff.1 hA
    have hres : Hid (thereB p pane o = wi o 0 (((nth p.opts pane.toNat).length : Int) - 1)) := Lib.hid (by simp [thereB, hA])
    have hidx : pane.toNat < p.opts.length := by have := hlen.out; omega
    obtain ⟨bo, oo, rfl, hbo, uo, co0, hO⟩ := hopts.out pane.toNat hidx
    obtain ⟨av, cv, rfl, lv, _⟩ := hO.opened
    go_wp2_with (go_at_call 94; refine (pwithin _ _ _ _).mono ?_; rintro e w' ⟨rfl, rfl⟩)
    go_ret; exact ⟨ret_bool hres.out.symm, x1.down hb1⟩
end Go.Proofs.Ytmpkbolabdmkkaa
