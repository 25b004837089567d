/- CONTRACTS of the reference's rising, has, copied. -/
import Derived.Test.YtmpkbolabdmkkaaZOnl
namespace Go.Proofs.Ytmpkbolabdmkkaa
open Go.RowKit

set_option maxRecDepth 100000 in
set_option maxHeartbeats 1000000 in
theorem rrising {W : World} (x : Later W) (v : Value) (l : List Int) (h : IsInts W v l) : Calls Try.prog 76 #[v] x.w (Ends W (.bool (risingB l))) := by
  obtain ⟨A, c, rfl, ll, hI⟩ := h.opened
  clear h
  go_enter Try.func76, Try.ntmps76
  go_wp2
  go_loopw [3] (fun iv wr => ∃ k : Nat, 1 ≤ k ∧ (k ≤ l.length ∨ k = 1) ∧ iv = .int .i64 k ∧ (∃ y : Later W, wr = y.w) ∧ (∀ i, i < k → i < l.length → 0 < i → nth l (i - 1) < nth l i)) (fun iv _ => l.length - (intOf iv).toNat)
  case atStart => exact ⟨1, Nat.le_refl _, .inr rfl, rfl, ⟨x, rfl⟩, by omega⟩
  case round =>
    clear x
    obtain ⟨k, hk1, hk2, rfl, ⟨x, rfl⟩, hz⟩ := hrel
    replace hz := Lib.hid hz
    by_cases hlt : k < l.length
    · obtain ⟨b, o, rfl, hb, d1⟩ := hI.out k hlt
      obtain ⟨_, _, he, _, d0⟩ := hI.out (k - 1) (by omega)
      cases he
      have hsub : ((k : Int) - 1).toNat = k - 1 := by omega
      have hwr : IntKind.i64.wrap ((k : Int) - 1) = (k : Int) - 1 := by rw [IntKind.wrap_i64]; omega
      have hn0 : decide ((k : Int) - 1 < 0) = false := by simp; omega
      cases hA : decide (nth l k ≤ nth l (k - 1))
      · go_wp2
        refine wp_region_later x (by kernel_rfl) (by kernel_rfl) ?_
        repeat (go_big_quiet_step (fail))
        refine wpQuiet_nil ?_
        rintro _ ⟨x, rfl⟩
        go_wp2
        go_roundw
        case rel => exact ⟨k + 1, by omega, by omega, by go_num, ⟨x, rfl⟩, fun i hi h1 h2 => by
          rcases Nat.lt_succ_iff_lt_or_eq.1 hi with h3 | rfl
          · exact hz.out i h3 h1 h2
          · simpa using hA⟩
        case measure => simp [intOf]; omega
      · have hbad : Hid (risingB l = false) := Lib.hid (risingB_no hlt (by omega) (by simpa using hA))
        go_wp2
        refine wp_region_later x (by kernel_rfl) (by kernel_rfl) ?_
        repeat (go_big_quiet_step (fail))
        refine wpQuiet_nil ?_
        rintro _ ⟨x, rfl⟩
        go_wp2
        go_ret; exact ⟨ret_bool hbad.out.symm, x, rfl⟩
    · have hgood : Hid (risingB l = true) := Lib.hid (risingB_yes fun i hi h0 => hz.out i (by omega) hi h0)
      go_wp2
      go_ret; exact ⟨ret_bool hgood.out.symm, x, rfl⟩

set_option maxRecDepth 100000 in
set_option maxHeartbeats 1000000 in
theorem rhas {W : World} (x : Later W) (v : Value) (l : List Int) (a : Int) (h : IsInts W v l) : Calls Try.prog 77 #[v, .int .i64 a] x.w (Ends W (.bool (hasI l a))) := by
  obtain ⟨A, c, rfl, ll, hI⟩ := h.opened
  clear h
  have hyes : Hid (∀ k, k < l.length → nth l k = a → hasI l a = true) := Lib.hid (fun k hk e => hasI_iff.2 (e ▸ nth_mem hk))
  have hno : Hid ((∀ i, i < l.length → nth l i ≠ a) → hasI l a = false) := Lib.hid (fun h => by
    rw [← Bool.not_eq_true, hasI_iff]
    intro hm
    obtain ⟨i, hi, rfl⟩ := List.getElem_of_mem hm
    exact h i hi (nth_eq l i hi))
  go_enter Try.func77, Try.ntmps77
  go_wp2
  go_loopw [5] (fun i wr => ∃ k : Nat, k ≤ l.length ∧ i = .int .i64 k ∧ (∃ y : Later W, wr = y.w) ∧ (∀ i, i < k → nth l i ≠ a)) (fun i _ => l.length - (intOf i).toNat)
  case atStart => exact ⟨0, Nat.zero_le _, rfl, ⟨x, rfl⟩, by omega⟩
  case round =>
    obtain ⟨k, hk, rfl, ⟨x, rfl⟩, hz⟩ := hrel
    replace hz := Lib.hid hz
    by_cases hlt : k < l.length
    · obtain ⟨b, o, rfl, hb, c0⟩ := hI.out k hlt
      cases hA : (nth l k == a)
      · go_wp2
        go_roundw
        case rel => exact ⟨k + 1, by omega, by go_num, ⟨x, rfl⟩, all_step hz.out (ne_beqI hA)⟩
        case measure => simp [intOf]; omega
      · go_wp2
        go_ret
        exact ⟨ret_bool (hyes.out k hlt (eq_beqI hA)).symm, x, rfl⟩
    · obtain rfl : k = l.length := by omega
      go_wp2
      go_ret
      exact ⟨ret_bool (hno.out hz.out).symm, x, rfl⟩

set_option maxRecDepth 100000 in
set_option maxHeartbeats 1000000 in
theorem rcopied {W : World} (x : Later W) (v : Value) (t : List (List Bool)) (h : IsBoolss W v t) (hn : t.length ≤ 65536) : Calls Try.prog 127 #[v] x.w (EndsTab W t) := by
  obtain ⟨a, c, rfl, ll, h⟩ := h.opened
  go_enter Try.func127, Try.ntmps127
  go_wp2
  go_loopw [3, 4] (fun v i wr => ∃ k : Nat, k ≤ t.length ∧ i = .int .i64 k ∧ ∃ y : Later W, wr = y.w ∧ ∃ vs, OwnTab y v (t.take k) vs) (fun _ i _ => t.length - (intOf i).toNat)
  case atStart => exact ⟨0, Nat.zero_le _, rfl, x, rfl, [], by simpa using OwnTab.nil x⟩
  case round =>
    obtain ⟨k, hk, rfl, ⟨x, rfl, vs, hout⟩⟩ := hrel
    by_cases hlt : k < t.length
    · obtain ⟨bo, oo, rfl, hbo, u, c0, hu⟩ := h.out k hlt
      obtain ⟨au, cu, rfl, lu, hu2⟩ := (hu.below x.h).opened
      have HS : Hid (t.take (k + 1) = t.take k ++ [nth t k]) := Lib.hid (by rw [List.take_succ_eq_append_getElem hlt, nth_eq t k hlt])
      have hlen : Hid ((t.take k).length = k) := Lib.hid (by simp; omega)
      have hlt2 := Lib.hid hout.block
      obtain ⟨av, cv, rfl⟩ := hout.slice
      have hO := Lib.hid hout
      have q0 := Later.cells x.h c0
      have qb := Later.sizes x.h hbo
      clear hout hu
      rw [hlen.out]
      obtain ⟨z, hz, hown⟩ := owns_empty (Later.now x.w) 4 1
      change x.w.alloc _ = _ at hz
      go_wp2_with (first | (at_builtin; refine wpList_appN z 52 4 _ 1 1 Try.info4 rfl (by decide) Try.underlying52 rfl _ _ rfl _ _ _ (by rfl) hown _ (nth t k).length cu ((nth t k).map Value.bool) (by rfl) (by simp) (bools_cells hu2.out z) (bools_one _) (by omega) (by omega) ?_; intro v3 y hrow _; obtain ⟨A3, c3, rfl⟩ := owns_slice hrow; simp only [Nat.zero_add, List.nil_append] at hrow; rw [Nat.zero_add]; have hO2 := Lib.hid (hO.out.later (z := x.up y) y.h); have hrow3 := Lib.hid hrow; clear hrow) | (at_builtin; rw [hlen.out] at hO2; refine wpList_appTab (x.up y) rfl _ _ rfl _ _ _ (by rfl) hO2.out _ (nth t k) x.w.heap.size x.h.size hrow3.out hlt2.out (by rfl) (by rw [hlen.out]; omega) ?_; intro v' z hout'))
      go_roundw
      case rel => exact ⟨k + 1, by omega, by go_num, z, rfl, _, by rw [HS.out]; exact hout'⟩
      case measure => simp [intOf]; omega
    · obtain rfl : k = t.length := by omega
      go_wp2
      go_ret
      exact ⟨_, rfl, x, rfl, vs, by rw [List.take_length] at hout; exact hout⟩
end Go.Proofs.Ytmpkbolabdmkkaa
