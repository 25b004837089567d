/- CONTRACTS of the copies that places' Only makes. -/
import Derived.Test.YtmpkbolabdmkkaaZCov
import Derived.Test.YtmpkbolabdmkkaaZPlS
import Derived.Test.YtmpkbolabdmkkaaZh
namespace Go.Proofs.Ytmpkbolabdmkkaa
open Go.RowKit

theorem Try.info57 : (Try.prog.info? 57).map (fun i => (i.zero, i.size, i.bytes)) = some (some (.agg #[.int .i64 0, .int .i64 0, .bool false, .int .i64 0]), 4, 32) := by kernel_rfl
theorem Try.info39 : (Try.prog.info? 39).map (fun i => (i.zero, i.size, i.bytes)) = some (some (.slice none 0 0), 1, 24) := by kernel_rfl
theorem Try.info87 : (Try.prog.info? 87).map (fun i => (i.zero, i.size, i.bytes)) = some (some (.agg #[.int .i64 0, .int .i64 0, .slice none 0 0, .slice none 0 0, .int .i64 0, .int .i64 0, .slice none 0 0]), 7, 104) := by kernel_rfl

/-- bools in a row of the call's own -/
def EndsOwnB (W : World) (l : List Bool) (e : Ending) (w' : World) : Prop := ∃ v, e = .returned v ∧ ∃ y : Later W, w' = y.w ∧ y.w.ownsRow W.heap.size 4 1 v l.length (l.map Value.bool)

set_option maxRecDepth 100000 in
set_option maxHeartbeats 1000000 in
theorem pcloneB {W : World} (x : Later W) (v : Value) (l : List Bool) (h : IsBools W v l) : Calls Try.prog 74 #[v] x.w (EndsOwnB W l) := by
  obtain ⟨a, c, rfl, ll, h⟩ := h.opened
  have q52 : ∀ (w : World) (a : Option Addr) (n c n' c' : Nat), (binOp .eql 52 (.slice a n c) (.slice none n' c')).run Try.prog w = .ok (.bool a.isNone) w := fun w a n c n' c' => Lib.run_eql_slice_nil w _ _ a n c n' c' Try.underlying52
  cases a with
  | none =>
    obtain rfl : l = [] := by
      cases l with
      | nil => rfl
      | cons y t => obtain ⟨_, _, he, _⟩ := h.out 0 (by simp); cases he
    go_enter Try.func74, Try.ntmps74
    go_wp2
    go_ret; exact ⟨_, rfl, x, rfl, World.ownsRow_nil _ _ _ _⟩
  | some a =>
    go_enter Try.func74, Try.ntmps74
    obtain ⟨z, hz, hown⟩ := owns_empty x 4 1
    go_wp2_with (at_builtin; refine wpList_appN z 52 4 _ 1 1 Try.info4 rfl (by decide) Try.underlying52 rfl _ _ rfl _ _ _ (by rfl) hown (some a) l.length c (l.map Value.bool) (by rfl) (by simp) (bools_cells h.out z) (bools_one l) (by omega) (by omega) ?_; intro v' x hown' _; obtain ⟨A', c', rfl⟩ := owns_slice hown')
    clear hz hown
    simp only [Nat.zero_add, List.nil_append] at hown' ⊢
    go_ret; exact ⟨_, rfl, x, rfl, hown'⟩

theorem opts_cells {W : World} {A : Option Addr} {l : List Opt} (h : ∀ i, i < l.length → ∃ b o, A = some ⟨b, o, none⟩ ∧ b < W.heap.size ∧ OptAt W b (o + i * 4) (nth l i)) (z : Later W) :
    ∀ j, j < l.length * 4 → ∃ b o, A = some ⟨b, o, none⟩ ∧ z.w.cell? ⟨b, o + j, none⟩ = (l.flatMap optCells)[j]? := fun j hj => by
  have hi : j / 4 < l.length := by omega
  obtain ⟨b, o, ha, hb, e0, e1, e2, e3⟩ := h (j / 4) hi
  refine ⟨b, o, ha, ?_⟩
  have hf := flat_at (s := 4) optCells (fun _ => rfl) l (j / 4) (j % 4) hi (by omega)
  rw [show j / 4 * 4 + j % 4 = j by omega] at hf
  rw [hf]
  have hj4 : j % 4 = 0 ∨ j % 4 = 1 ∨ j % 4 = 2 ∨ j % 4 = 3 := by omega
  have hcell : z.w.cell? ⟨b, o + j, none⟩ = W.cell? ⟨b, o + j, none⟩ := z.h.cell (p := ⟨b, o + j, none⟩) hb
  rw [hcell]
  rcases hj4 with h4 | h4 | h4 | h4
  · rw [h4, show o + j = o + j / 4 * 4 by omega]; exact e0
  · rw [h4, show o + j = o + j / 4 * 4 + 1 by omega]; exact e1
  · rw [h4, show o + j = o + j / 4 * 4 + 2 by omega]; exact e2
  · rw [h4, show o + j = o + j / 4 * 4 + 3 by omega]; exact e3
theorem opts_one (l : List Opt) : ∀ u ∈ l.flatMap optCells, u.oneCell' = true := fun u hu => by
  obtain ⟨o, _, ho⟩ := List.mem_flatMap.1 hu
  simp only [optCells, List.mem_cons, List.not_mem_nil, or_false] at ho
  rcases ho with rfl | rfl | rfl | rfl <;> rfl

/-- options in what the call made -/
def EndsOptsF (W : World) (l : List Opt) (e : Ending) (w' : World) : Prop := ∃ a c, e = .returned (.slice a l.length c) ∧ ∃ y : Later W, w' = y.w ∧ IsOpts (wout (fun k => decide (k < W.heap.size)) y.w) (.slice a l.length c) l

set_option maxRecDepth 100000 in
set_option maxHeartbeats 1000000 in
theorem pcloneO {W : World} (x : Later W) (v : Value) (l : List Opt) (h : IsOpts W v l) : Calls Try.prog 72 #[v] x.w (EndsOptsF W l) := by
  obtain ⟨a, c, rfl, ll, h⟩ := h
  have q39 : ∀ (w : World) (a : Option Addr) (n c n' c' : Nat), (binOp .eql 39 (.slice a n c) (.slice none n' c')).run Try.prog w = .ok (.bool a.isNone) w := fun w a n c n' c' => Lib.run_eql_slice_nil w _ _ a n c n' c' Try.underlying39
  replace h := Lib.hid h
  cases a with
  | none =>
    obtain rfl : l = [] := by
      cases l with
      | nil => rfl
      | cons y t => obtain ⟨_, _, he, _⟩ := h.out 0 (by simp); cases he
    go_enter Try.func72, Try.ntmps72
    go_wp2
    go_ret; exact ⟨none, 0, rfl, x, rfl, ⟨none, 0, rfl, by simp, fun i hi => absurd hi (Nat.not_lt_zero _)⟩⟩
  | some a =>
    go_enter Try.func72, Try.ntmps72
    obtain ⟨z, hz, hown⟩ := owns_empty x 57 4
    go_wp2_with (at_builtin; refine wpList_appN z 39 57 _ 4 32 Try.info57 rfl (by decide) Try.underlying39 rfl _ _ rfl _ _ _ (by rfl) hown (some a) l.length c (l.flatMap optCells) (by rfl) (flat_len optCells (fun _ => rfl) l) (opts_cells h.out z) (opts_one l) (by omega) (by omega) ?_; intro v' x hown' _; obtain ⟨A', c', rfl⟩ := owns_slice hown')
    clear hz hown
    simp only [Nat.zero_add, List.nil_append] at hown' ⊢
    go_ret; exact ⟨_, _, rfl, x, rfl, isOpts_of_owns (owns_fresh hown') ll⟩

set_option maxRecDepth 100000 in
set_option maxHeartbeats 1000000 in
theorem pboolsC {W : World} (x : Later W) (v : Value) (t : List (List Bool)) (h : IsBoolss W v t) (hn : t.length ≤ 65536) : Calls Try.prog 73 #[v] x.w (EndsTab W t) := by
  obtain ⟨a, c, rfl, ll, h⟩ := h.opened
  go_enter Try.func73, Try.ntmps73
  go_wp2
  go_loopw [2, 7] (fun v i wr => ∃ k : Nat, k ≤ t.length ∧ i = .int .i64 k ∧ ∃ y : Later W, wr = y.w ∧ ∃ vs, OwnTab y v (t.take k) vs) (fun _ i _ => t.length - (intOf i).toNat)
  case atStart => exact ⟨0, Nat.zero_le _, rfl, x, rfl, [], by simpa using OwnTab.nil x⟩
  case round =>
    obtain ⟨k, hk, rfl, ⟨x, rfl, vs, hout⟩⟩ := hrel
    by_cases hlt : k < t.length
    · obtain ⟨bo, oo, rfl, hbo, u, c0, hu⟩ := h.out k hlt
      have hC := Lib.hid (pcloneB (Later.now x.w) u (nth t k) (hu.below x.h))
      obtain ⟨au, cu, rfl, lu, _⟩ := hu.opened
      have HS : Hid (t.take (k + 1) = t.take k ++ [nth t k]) := Lib.hid (by rw [List.take_succ_eq_append_getElem hlt, nth_eq t k hlt])
      have hlen : Hid ((t.take k).length = k) := Lib.hid (by simp; omega)
      have hlt2 := Lib.hid hout.block
      obtain ⟨av, cv, rfl⟩ := hout.slice
      have hO := Lib.hid hout
      clear hout hu
      rw [hlen.out]
      go_wp2_with (first | (go_at_call 74; refine hC.out.mono ?_; rintro e w' ⟨v3, rfl, y, rfl, hrow⟩; obtain ⟨A3, c3, rfl⟩ := owns_slice hrow; have hO2 := Lib.hid (hO.out.later (z := x.up y) y.h); have hrow3 := Lib.hid hrow; clear hrow) | (at_builtin; rw [hlen.out] at hO2; refine wpList_appTab (x.up y) rfl _ _ rfl _ _ _ (by rfl) hO2.out _ (nth t k) x.w.heap.size x.h.size hrow3.out hlt2.out (by rfl) (by rw [hlen.out]; omega) ?_; intro v' z hout'))
      go_roundw
      case rel => exact ⟨k + 1, by omega, by go_num, z, rfl, _, by rw [HS.out]; exact hout'⟩
      case measure => simp [intOf]; omega
    · obtain rfl : k = t.length := by omega
      go_wp2
      go_ret
      exact ⟨_, rfl, x, rfl, vs, by rw [List.take_length] at hout; exact hout⟩

/-- a number stands in a list -/
def hasI (l : List Int) (a : Int) : Bool := decide (0 ≤ idxL l a)
theorem hasI_iff {l : List Int} {a : Int} : hasI l a = true ↔ a ∈ l := by
  unfold hasI idxL
  by_cases h : a ∈ l <;> simp [h]
set_option maxRecDepth 100000 in
set_option maxHeartbeats 1000000 in
theorem phasI {W : World} (x : Later W) (v : Value) (l : List Int) (a : Int) (h : IsInts W v l) : Calls Try.prog 75 #[v, .int .i64 a] x.w (Ends W (.bool (hasI l a))) := by
  have hC := Lib.hid (pindexI x v l a h)
  obtain ⟨A, c, rfl, _, _⟩ := h
  go_enter Try.func75, Try.ntmps75
  go_wp2_with (go_at_call 126; refine hC.out.mono ?_; rintro e w' ⟨rfl, x, rfl⟩)
  go_ret
  exact ⟨rfl, x, rfl⟩
end Go.Proofs.Ytmpkbolabdmkkaa
