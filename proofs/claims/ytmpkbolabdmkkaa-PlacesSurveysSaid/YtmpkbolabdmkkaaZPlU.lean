/- CONTRACTS of places' Clash and Reason. -/
import Derived.Test.YtmpkbolabdmkkaaZPlT
namespace Go.Proofs.Ytmpkbolabdmkkaa
open Go.RowKit

def clashO (p : Prob) : Option (List Int) := leastO p fun _ => true
def clashE (p : Prob) : Int := if largeE p ≠ 0 then largeE p else if (clashO p).isSome then 0 else 3
def clashL (p : Prob) : List Int := if clashE p = 0 then optL (clashO p) else []
def reasonO (p : Prob) (pane o : Int) : Option (List Int) := leastO p (hasB pane o)
def reasonE (p : Prob) (pane o : Int) : Int := if askE p (thereB p pane o) ≠ 0 then askE p (thereB p pane o) else if (reasonO p pane o).isSome then 0 else 3
def reasonL (p : Prob) (pane o : Int) : List Int := if reasonE p pane o = 0 then optL (reasonO p pane o) else []

set_option maxHeartbeats 400000 in
theorem pany {W : World} (x : Later W) (v : Value) (f : List Int) (h : IsInts W v f) : Calls Try.prog 81 #[v] x.w (Ends W (.bool true)) := by
  obtain ⟨a, c, rfl, _, _⟩ := h
  go_enter Try.func81, Try.ntmps81
  go_wp2
  go_ret; exact ⟨rfl, x, rfl⟩

set_option maxRecDepth 100000 in
set_option maxHeartbeats 1000000 in
theorem pwith {W : World} (x : Later W) (v : Value) (f : List Int) (b1 b2 : Nat) (pane o : Int) (h : IsInts W v f) (h0 : 0 ≤ pane) (h1 : pane < f.length) (hc : ∀ y : Later W, y.w.cell? ⟨b1, 0, none⟩ = some (.int .i64 pane)) (hd : ∀ y : Later W, y.w.cell? ⟨b2, 0, none⟩ = some (.int .i64 o)) :
    Calls Try.prog 84 #[v, .pointer (some ⟨b1, 0, none⟩), .pointer (some ⟨b2, 0, none⟩)] x.w (Ends W (.bool (hasB pane o f))) := by
  obtain ⟨a, c, rfl, _, hI⟩ := h.opened
  clear h
  obtain ⟨k, rfl⟩ := Int.eq_ofNat_of_zero_le h0
  have hk : k < f.length := by omega
  obtain ⟨b, o', rfl, hb, c0⟩ := hI.out k hk
  go_enter Try.func84, Try.ntmps84
  go_wp2
  refine wp_region_later x (by kernel_rfl) (by kernel_rfl) ?_
  repeat (go_big_quiet_step (fail))
  refine wpQuiet_nil ?_
  rintro _ ⟨x, rfl⟩
  go_wp2
  go_ret; exact ⟨rfl, x, rfl⟩

set_option maxRecDepth 100000 in
set_option maxHeartbeats 1000000 in
theorem pClash {W : World} (x : Later W) (v0 v1 v2 : Value) (p : Prob) (hp : IsProb W v0 v1 v2 p) :
    Calls Try.prog 22 #[.agg #[v0, v1, v2]] x.w (EndsIntsE W (clashL p) (clashE p)) := by
  go_enter Try.func22, Try.ntmps22
  go_upto_region 1 with (fail)
  obtain ⟨W1, x1, e1, hb1, s1, p0, p1, p2⟩ := enter3 x v0 v1 v2 26
  rw [e1]; clear e1
  have HP := Lib.hid (hp.below hb1)
  obtain ⟨ap, cp, rfl, lp, _⟩ := hp.panes.opened
  obtain ⟨ao, co, rfl, lo, _⟩ := hp.opts.opened
  obtain ⟨ar, cr, rfl, lr, _⟩ := hp.rules.opened
  clear hp
  by_cases h0 : largeE p = 0
  · have hb0 : (askE p true != 0) = false := by rw [askE_true]; simp [h0]
    obtain ⟨hv, ht⟩ := largeE_0.1 h0
    have hC := Lib.hid (fun y : Later W1 => pleast y _ _ _ p 81 #[] (fun _ => true) HP.out hv (enters_of Try.func81 (by kernel_rfl) rfl) (fun y' _ v k _ hI => by rw [Array.append_empty]; exact pany y' v _ hI))
    have hCE : Hid (clashE p = if (clashO p).isSome then 0 else 3) := Lib.hid (by simp [clashE, h0])
    clear h0 ht
    cases hO : clashO p with
    | none =>
      unfold clashO at hO
      rw [hO] at hC
      go_wp2_with (first | (go_at_call 65; refine (pasked x1 _ _ _ p true HP.out).mono ?_; rintro e w' ⟨rfl, x1, rfl⟩) | (go_at_call 80; refine (hC.out _).mono ?_; rintro e w' ⟨rfl, x1, rfl⟩))
      go_ret2
      obtain ⟨z, hz⟩ := x1.down hb1
      have he : clashE p = 3 := by rw [hCE.out]; unfold clashO; rw [hO]; rfl
      exact ⟨_, by rw [he]; rfl, z, hz, by unfold clashL; rw [if_neg (by rw [he]; decide)]; exact isInts_nil _⟩
    | some l =>
      unfold clashO at hO
      rw [hO] at hC
      go_wp2_with (first | (go_at_call 65; refine (pasked x1 _ _ _ p true HP.out).mono ?_; rintro e w' ⟨rfl, x1, rfl⟩) | (go_at_call 80; refine (hC.out _).mono ?_; rintro e w' ⟨v, rfl, x1, rfl, hI⟩; have hI2 := Lib.hid hI; obtain ⟨a1, c1, rfl, _, _⟩ := hI))
      go_ret2
      obtain ⟨z, hz⟩ := x1.down hb1
      have he : clashE p = 0 := by rw [hCE.out]; unfold clashO; rw [hO]; rfl
      refine ⟨_, by rw [he]; rfl, z, hz, ?_⟩
      rw [← hz]; unfold clashL; rw [if_pos he]; unfold clashO; rw [hO]; exact hI2.out
  · have hb0 : (askE p true != 0) = true := by rw [askE_true]; simp [h0]
    have hres : Hid (clashE p = askE p true ∧ clashL p = []) := Lib.hid (by rw [askE_true]; have h1 : clashE p = largeE p := by simp [clashE, h0]
                                                                            exact ⟨h1, by simp [clashL, h1, h0]⟩)
    clear h0
    go_wp2_with (go_at_call 65; refine (pasked x1 _ _ _ p true HP.out).mono ?_; rintro e w' ⟨rfl, x1, rfl⟩)
    go_ret2
    obtain ⟨z, hz⟩ := x1.down hb1
    exact ⟨_, by rw [hres.out.1]; rfl, z, hz, by rw [hres.out.2]; exact isInts_nil _⟩

/-- a problem's box, and behind it two numbers' -/
theorem enter311 {W : World} (x : Later W) (v0 v1 v2 u w : Value) (S T T' : TypeId) : ∃ (W1 : World) (x1 : Later W1), ((x.w.alloc (.cells #[v0, v1, v2] S)).alloc (.cells #[u] T)).alloc (.cells #[w] T') = x1.w ∧ Below W.heap.size W W1 ∧
    ((∀ y : Later W1, x.w.heap.size < y.w.heap.size) ∧ (∀ y : Later W1, x.w.heap.size + 1 < y.w.heap.size) ∧ (∀ y : Later W1, x.w.heap.size + 1 + 1 < y.w.heap.size)) ∧
    ((∀ y : Later W1, y.w.cell? ⟨x.w.heap.size, 0, none⟩ = some v0) ∧ (∀ y : Later W1, y.w.cell? ⟨x.w.heap.size, 1, none⟩ = some v1) ∧ (∀ y : Later W1, y.w.cell? ⟨x.w.heap.size, 2, none⟩ = some v2)) ∧
    (∀ y : Later W1, y.w.cell? ⟨x.w.heap.size + 1, 0, none⟩ = some u) ∧ (∀ y : Later W1, y.w.cell? ⟨x.w.heap.size + 1 + 1, 0, none⟩ = some w) := by
  obtain ⟨W2, x2, e2, hb2, ⟨s1, s2⟩, ⟨p0, p1, p2⟩, q0⟩ := enter31 x v0 v1 v2 u S T
  have hs : x2.w.heap.size = x.w.heap.size + 1 + 1 := by rw [← e2]; simp
  have hb : Below W2.heap.size W2 (x2.w.alloc (.cells #[w] T')) := x2.h.alloc x2.h.size _
  rw [e2]
  refine ⟨_, Later.now _, rfl, hb2.trans (hb.mono hb2.size), ⟨Later.sizes hb s1, Later.sizes hb s2, Later.size (by rw [← hs]; simp)⟩, ⟨Later.cells hb p0, Later.cells hb p1, Later.cells hb p2⟩, Later.cells hb q0, Later.cell (by rw [← hs]; simp) (World.cell?_alloc_at _ T' _ 0 hs.symm)⟩

set_option maxRecDepth 100000 in
set_option maxHeartbeats 1000000 in
theorem pReason {W : World} (x : Later W) (v0 v1 v2 : Value) (p : Prob) (pane o : Int) (hp : IsProb W v0 v1 v2 p) :
    Calls Try.prog 24 #[.agg #[v0, v1, v2], .int .i64 pane, .int .i64 o] x.w (EndsIntsE W (reasonL p pane o) (reasonE p pane o)) := by
  go_enter Try.func24, Try.ntmps24
  go_upto_region 1 with (fail)
  obtain ⟨W1, x1, e1, hb1, ⟨s1, s2, s3⟩, ⟨p0, p1, p2⟩, q0, r0⟩ := enter311 x v0 v1 v2 (.int .i64 pane) (.int .i64 o) 26 3 3
  rw [e1]; clear e1
  have HP := Lib.hid (hp.below hb1)
  obtain ⟨ap, cp, rfl, lp, _⟩ := hp.panes.opened
  obtain ⟨ao, co, rfl, lo, _⟩ := hp.opts.opened
  obtain ⟨ar, cr, rfl, lr, _⟩ := hp.rules.opened
  clear hp
  cases hv : validP p
  · have h70 : ∀ b, askE p b = 70 := fun b => by simp [askE, hv]
    have hres : Hid (reasonE p pane o = 70 ∧ reasonL p pane o = []) := Lib.hid ⟨by simp [reasonE, h70], by simp [reasonL, reasonE, h70]⟩
    clear h70
    go_wp2_with (go_at_call 36; refine (pValid x1 _ _ _ p HP.out).mono ?_; rintro e w' ⟨rfl, x1, rfl⟩)
    go_ret2
    obtain ⟨z, hz⟩ := x1.down hb1
    exact ⟨_, by rw [hres.out.1]; rfl, z, hz, by rw [hres.out.2]; exact isInts_nil _⟩
  have hlen := Lib.hid (valid_len hv)
  go_wp2_with (go_at_call 36; refine (pValid x1 _ _ _ p HP.out).mono ?_; rintro e w' ⟨rfl, x1, rfl⟩)
  refine wp_region_later x1 (by kernel_rfl) (by kernel_rfl) ?_
  repeat (go_big_quiet_step ((first | (go_at_call 66; exact phas _ _ _ _ _ _ _ HP.out hlen.out) | (go_at_call 65; exact pasked _ _ _ _ _ _ HP.out))))
  refine wpQuiet_nil ?_
  rintro _ ⟨x1, rfl⟩
  by_cases h0 : askE p (thereB p pane o) = 0
  · have hb0 : (askE p (thereB p pane o) != 0) = false := by simp [h0]
    have hRE : Hid (reasonE p pane o = if (reasonO p pane o).isSome then 0 else 3) := Lib.hid (by simp [reasonE, h0])
    obtain ⟨_, hth, _⟩ := askE_0.1 h0
    have hth1 : wi pane 0 ((p.panes.length : Int) - 1) = true := by unfold thereB at hth; rw [Bool.and_eq_true] at hth; exact hth.1
    have hth2 := wi_iff.1 hth1
    have hC := Lib.hid (fun y : Later W1 => pleast y _ _ _ p 84 #[.pointer (some ⟨x.w.heap.size + 1, 0, none⟩), .pointer (some ⟨x.w.heap.size + 1 + 1, 0, none⟩)] (hasB pane o) HP.out hv (enters_of Try.func84 (by kernel_rfl) rfl)
      (fun y' hb v k hk hI => pwith y' v _ _ _ pane o hI hth2.1 (by rw [fill_len]; have := hlen.out; omega) (Later.cells hb q0) (Later.cells hb r0)))
    clear h0 hth hth1 hth2
    cases hO : reasonO p pane o with
    | none =>
      unfold reasonO at hO
      rw [hO] at hC
      go_wp2_with (go_at_call 80; refine (hC.out _).mono ?_; rintro e w' ⟨rfl, x1, rfl⟩)
      go_ret2
      obtain ⟨z, hz⟩ := x1.down hb1
      have he : reasonE p pane o = 3 := by rw [hRE.out]; unfold reasonO; rw [hO]; rfl
      exact ⟨_, by rw [he]; rfl, z, hz, by unfold reasonL; rw [if_neg (by rw [he]; decide)]; exact isInts_nil _⟩
    | some l =>
      unfold reasonO at hO
      rw [hO] at hC
      go_wp2_with (go_at_call 80; refine (hC.out _).mono ?_; rintro e w' ⟨v, rfl, x1, rfl, hI⟩; have hI2 := Lib.hid hI; obtain ⟨a1, c1, rfl, _, _⟩ := hI)
      go_ret2
      obtain ⟨z, hz⟩ := x1.down hb1
      have he : reasonE p pane o = 0 := by rw [hRE.out]; unfold reasonO; rw [hO]; rfl
      refine ⟨_, by rw [he]; rfl, z, hz, ?_⟩
      rw [← hz]; unfold reasonL; rw [if_pos he]; unfold reasonO; rw [hO]; exact hI2.out
  · have hb0 : (askE p (thereB p pane o) != 0) = true := by simp [h0]
    have hres : Hid (reasonE p pane o = askE p (thereB p pane o) ∧ reasonL p pane o = []) := Lib.hid ⟨by simp [reasonE, h0], by simp [reasonL, reasonE, h0]⟩
    clear h0
    go_wp2
    go_ret2
    obtain ⟨z, hz⟩ := x1.down hb1
    exact ⟨_, by rw [hres.out.1]; rfl, z, hz, by rw [hres.out.2]; exact isInts_nil _⟩
end Go.Proofs.Ytmpkbolabdmkkaa
