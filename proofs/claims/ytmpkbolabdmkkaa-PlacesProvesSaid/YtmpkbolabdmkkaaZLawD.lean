/- CONTRACTS of the laws' light, chosen, before, single; of the library's Index and Contains of bools. -/
import Derived.Test.YtmpkbolabdmkkaaZLawC
import Derived.Test.YtmpkbolabdmkkaaZPlS
namespace Go.Proofs.Ytmpkbolabdmkkaa
open Go.RowKit

set_option maxRecDepth 100000 in
set_option maxHeartbeats 1000000 in
theorem llight {W : World} (x : Later W) (v0 v1 v2 : Value) (p : Prob) (hp : IsProb W v0 v1 v2 p) : Calls Try.prog 15 #[.agg #[v0, v1, v2]] x.w (EndsBool W) := by
  go_enter Try.func15, Try.ntmps15
  go_upto_region 1 with (fail)
  obtain ⟨W1, x1, e1, hb1, s1, p0, p1, p2⟩ := enter3 x v0 v1 v2 26
  rw [e1]; clear e1
  have HP := Lib.hid (hp.below hb1)
  obtain ⟨ap, cp, rfl, lp, _⟩ := hp.panes.opened
  obtain ⟨ao, co, rfl, lo, _⟩ := hp.opts.opened
  obtain ⟨ar, cr, rfl, lr, _⟩ := hp.rules.opened
  clear hp
  obtain ⟨sv, hsv⟩ : ∃ sv, sv = spaceV p := ⟨_, rfl⟩
  obtain ⟨se, hse⟩ : ∃ se, se = spaceE p := ⟨_, rfl⟩
  have hC := Lib.hid (fun y : Later W1 => rSpace y _ _ _ p HP.out)
  rw [← hsv, ← hse] at hC
  clear hsv hse
  have hF : Hid (∀ (b : Bool) (y : Later W1), EndsBool W (.returned (.bool b)) y.w) := Lib.hid (fun b y => ⟨b, rfl, y.down hb1⟩)
  go_upto_region 3 with (go_at_call 31; refine (lshaped x1 _ _ _ p HP.out).mono ?_; rintro e w' ⟨sh, rfl, x1, rfl⟩; rcases Bool.eq_false_or_eq_true sh with hsh | hsh <;> subst hsh)
  rotate_left
  · go_ret
    exact hF.out _ _
  by_cases h1 : se = 0 <;> by_cases h2 : sv ≤ 300 <;> by_cases h3 : p.rules.length ≤ 30 <;> by_cases h4 : 65536 < sv
  all_goals first | (exfalso; omega) | skip
  all_goals
    go_wp2_with (go_at_call 33; refine (hC.out x1).mono ?_; rintro e w' ⟨rfl, x1, rfl⟩)
    go_ret
    exact hF.out _ _

/-- where a bool first stands in a list; -1: nowhere -/
def idxB (l : List Bool) (a : Bool) : Int := if a ∈ l then (l.idxOf a : Nat) else -1
theorem idxB_at {l : List Bool} {a : Bool} {k : Nat} (hk : k < l.length) (h : nth l k = a) (hn : ∀ i, i < k → nth l i ≠ a) : idxB l a = k := by
  have hm : a ∈ l := by rw [← h]; exact nth_mem hk
  unfold idxB
  rw [if_pos hm]
  congr 1
  have hlt := List.idxOf_lt_length_iff.2 hm
  have hg : nth l (l.idxOf a) = a := by rw [nth_eq _ _ hlt]; exact List.getElem_idxOf hlt
  rcases Nat.lt_trichotomy (l.idxOf a) k with h1 | h1 | h1
  · exact absurd hg (hn _ h1)
  · exact h1
  · have h2 := List.not_of_lt_findIdx (show k < List.findIdx (· == a) l from h1)
    rw [nth_eq _ _ hk] at h
    simp [h] at h2
theorem idxB_none {l : List Bool} {a : Bool} (hn : ∀ i, i < l.length → nth l i ≠ a) : idxB l a = -1 := by
  unfold idxB
  rw [if_neg]
  intro hm
  obtain ⟨i, hi, rfl⟩ := List.getElem_of_mem hm
  exact hn i hi (nth_eq l i hi)

set_option maxRecDepth 100000 in
set_option maxHeartbeats 1000000 in
theorem pindexB {W : World} (x : Later W) (v : Value) (l : List Bool) (a : Bool) (h : IsBools W v l) : Calls Try.prog 111 #[v, .bool a] x.w (Ends W (.int .i64 (idxB l a))) := by
  obtain ⟨A, c, rfl, ll, hI⟩ := h.opened
  clear h
  have hat := Lib.hid (fun k => @idxB_at l a k)
  have hno := Lib.hid (@idxB_none l a)
  go_enter Try.func111, Try.ntmps111
  go_wp2
  go_loopw [8] (fun i wr => ∃ k : Nat, k ≤ l.length ∧ i = .int .i64 k ∧ (∃ y : Later W, wr = y.w) ∧ (∀ i, i < k → nth l i ≠ a)) (fun i _ => l.length - (intOf i).toNat)
  case atStart => exact ⟨0, Nat.zero_le _, rfl, ⟨x, rfl⟩, by omega⟩
  case round =>
    obtain ⟨k, hk, rfl, ⟨x, rfl⟩, hz⟩ := hrel
    replace hz := Lib.hid hz
    by_cases hlt : k < l.length
    · obtain ⟨b, o, rfl, hb, c0⟩ := hI.out k hlt
      cases hA : (a == nth l k)
      · go_wp2
        go_roundw
        case rel => exact ⟨k + 1, by omega, by go_num, ⟨x, rfl⟩, all_step hz.out (fun e => by rw [e] at hA; simp at hA)⟩
        case measure => simp [intOf]; omega
      · go_wp2
        go_ret
        exact ⟨ret_int (hat.out k hlt (beq_iff_eq.1 hA).symm hz.out).symm, x, rfl⟩
    · obtain rfl : k = l.length := by omega
      go_wp2
      go_ret
      exact ⟨ret_int (hno.out hz.out).symm, x, rfl⟩

theorem idxB_ge (l : List Bool) (a : Bool) : decide (0 ≤ idxB l a) = l.contains a := by
  unfold idxB
  by_cases h : a ∈ l <;> simp [h]

set_option maxRecDepth 100000 in
set_option maxHeartbeats 1000000 in
theorem phasBl {W : World} (x : Later W) (v : Value) (l : List Bool) (a : Bool) (h : IsBools W v l) : Calls Try.prog 112 #[v, .bool a] x.w (Ends W (.bool (l.contains a))) := by
  have hC := Lib.hid (pindexB x v l a h)
  have hge := Lib.hid (idxB_ge l a)
  obtain ⟨A, c, rfl, _, _⟩ := h
  go_enter Try.func112, Try.ntmps112
  go_wp2_with (go_at_call 111; refine hC.out.mono ?_; rintro e w' ⟨rfl, x, rfl⟩)
  go_ret
  exact ⟨by rw [← hge.out]; rfl, x, rfl⟩
end Go.Proofs.Ytmpkbolabdmkkaa
