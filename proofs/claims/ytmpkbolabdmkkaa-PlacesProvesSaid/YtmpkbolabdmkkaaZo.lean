/- CONTRACTS of the copies that places' Only makes. -/
import Derived.Test.YtmpkbolabdmkkaaZk
import Derived.Test.YtmpkbolabdmkkaaZl
import Derived.Test.YtmpkbolabdmkkaaZh
namespace Go.Proofs.Ytmpkbolabdmkkaa
open Go.RowKit

theorem Try.info57 : (Try.prog.info? 57).map (fun i => (i.zero, i.size, i.bytes)) = some (some (.agg #[.int .i64 0, .int .i64 0, .bool false, .int .i64 0]), 4, 32) := by kernel_rfl
theorem Try.info39 : (Try.prog.info? 39).map (fun i => (i.zero, i.size, i.bytes)) = some (some (.slice none 0 0), 1, 24) := by kernel_rfl
theorem Try.info87 : (Try.prog.info? 87).map (fun i => (i.zero, i.size, i.bytes)) = some (some (.agg #[.int .i64 0, .int .i64 0, .slice none 0 0, .slice none 0 0, .int .i64 0, .int .i64 0, .slice none 0 0]), 7, 104) := by kernel_rfl

/-- bools in a row of the call's own -/
def EndsOwnB (W : World) (l : List Bool) (e : Ending) (w' : World) : Prop := ∃ v, e = .returned v ∧ ∃ y : Later W, w' = y.w ∧ y.w.ownsRow W.heap.size 4 1 v l.length (l.map Value.bool)

set_option maxRecDepth 100000 in
set_option maxHeartbeats 1000000 in
theorem pcloneB {W : World} (x : Later W) (v : Value) (l : List Bool) (h : IsBools W v l) : Calls Try.prog 74 #[v] x.w (EndsOwnB W l) := by
  obtain ⟨a, c, rfl, ll, h⟩ := h.opened
  have q52 : ∀ (w : World) (a : Option Addr) (n c n' c' : Nat), (binOp .eql 52 (.slice a n c) (.slice none n' c')).run Try.prog w = .ok (.bool a.isNone) w := fun w a n c n' c' => Lib.run_eql_slice_nil w _ _ a n c n' c' Try.underlying52
  cases a with
  | none =>
    obtain rfl : l = [] := by
      cases l with
      | nil => rfl
      | cons y t => obtain ⟨_, _, he, _⟩ := h.out 0 (by simp); cases he
    go_enter Try.func74, Try.ntmps74
    go_wp2
    go_ret; exact ⟨_, rfl, x, rfl, World.ownsRow_nil _ _ _ _⟩
  | some a =>
    go_enter Try.func74, Try.ntmps74
    obtain ⟨z, hz, hown⟩ := owns_empty x 4 1
    go_wp2_with (at_builtin; refine wpList_appN z 52 4 _ 1 1 Try.info4 rfl (by decide) Try.underlying52 rfl _ _ rfl _ _ _ (by rfl) hown (some a) l.length c (l.map Value.bool) (by rfl) (by simp) (bools_cells h.out z) (bools_one l) (by omega) (by omega) ?_; intro v' x hown' _; obtain ⟨A', c', rfl⟩ := owns_slice hown')
    clear hz hown
    simp only [Nat.zero_add, List.nil_append] at hown' ⊢
    go_ret; exact ⟨_, rfl, x, rfl, hown'⟩

theorem opts_cells {W : World} {A : Option Addr} {l : List Opt} (h : ∀ i, i < l.length → ∃ b o, A = some ⟨b, o, none⟩ ∧ b < W.heap.size ∧ OptAt W b (o + i * 4) (nth l i)) (z : Later W) :
    ∀ j, j < l.length * 4 → ∃ b o, A = some ⟨b, o, none⟩ ∧ z.w.cell? ⟨b, o + j, none⟩ = (l.flatMap optCells)[j]? := fun j hj => by
  have hi : j / 4 < l.length := by omega
  obtain ⟨b, o, ha, hb, e0, e1, e2, e3⟩ := h (j / 4) hi
  refine ⟨b, o, ha, ?_⟩
  have hf := flat_at (s := 4) optCells (fun _ => rfl) l (j / 4) (j % 4) hi (by omega)
  rw [show j / 4 * 4 + j % 4 = j by omega] at hf
  rw [hf]
  have hj4 : j % 4 = 0 ∨ j % 4 = 1 ∨ j % 4 = 2 ∨ j % 4 = 3 := by omega
  have hcell : z.w.cell? ⟨b, o + j, none⟩ = W.cell? ⟨b, o + j, none⟩ := z.h.cell (p := ⟨b, o + j, none⟩) hb
  rw [hcell]
  rcases hj4 with h4 | h4 | h4 | h4
  · rw [h4, show o + j = o + j / 4 * 4 by omega]; exact e0
  · rw [h4, show o + j = o + j / 4 * 4 + 1 by omega]; exact e1
  · rw [h4, show o + j = o + j / 4 * 4 + 2 by omega]; exact e2
  · rw [h4, show o + j = o + j / 4 * 4 + 3 by omega]; exact e3
theorem opts_one (l : List Opt) : ∀ u ∈ l.flatMap optCells, u.oneCell' = true := fun u hu => by
  obtain ⟨o, _, ho⟩ := List.mem_flatMap.1 hu
  simp only [optCells, List.mem_cons, List.not_mem_nil, or_false] at ho
  rcases ho with rfl | rfl | rfl | rfl <;> rfl

/-- options in what the call made -/
def EndsOptsF (W : World) (l : List Opt) (e : Ending) (w' : World) : Prop := ∃ a c, e = .returned (.slice a l.length c) ∧ ∃ y : Later W, w' = y.w ∧ IsOpts (wout (fun k => decide (k < W.heap.size)) y.w) (.slice a l.length c) l

set_option maxRecDepth 100000 in
set_option maxHeartbeats 1000000 in
theorem pcloneO {W : World} (x : Later W) (v : Value) (l : List Opt) (h : IsOpts W v l) : Calls Try.prog 72 #[v] x.w (EndsOptsF W l) := by
  obtain ⟨a, c, rfl, ll, h⟩ := h
  have q39 : ∀ (w : World) (a : Option Addr) (n c n' c' : Nat), (binOp .eql 39 (.slice a n c) (.slice none n' c')).run Try.prog w = .ok (.bool a.isNone) w := fun w a n c n' c' => Lib.run_eql_slice_nil w _ _ a n c n' c' Try.underlying39
  replace h := Lib.hid h
  cases a with
  | none =>
    obtain rfl : l = [] := by
      cases l with
      | nil => rfl
      | cons y t => obtain ⟨_, _, he, _⟩ := h.out 0 (by simp); cases he
    go_enter Try.func72, Try.ntmps72
    go_wp2
    go_ret; exact ⟨none, 0, rfl, x, rfl, ⟨none, 0, rfl, by simp, fun i hi => absurd hi (Nat.not_lt_zero _)⟩⟩
  | some a =>
    go_enter Try.func72, Try.ntmps72
    obtain ⟨z, hz, hown⟩ := owns_empty x 57 4
    go_wp2_with (at_builtin; refine wpList_appN z 39 57 _ 4 32 Try.info57 rfl (by decide) Try.underlying39 rfl _ _ rfl _ _ _ (by rfl) hown (some a) l.length c (l.flatMap optCells) (by rfl) (flat_len optCells (fun _ => rfl) l) (opts_cells h.out z) (opts_one l) (by omega) (by omega) ?_; intro v' x hown' _; obtain ⟨A', c', rfl⟩ := owns_slice hown')
    clear hz hown
    simp only [Nat.zero_add, List.nil_append] at hown' ⊢
    go_ret; exact ⟨_, _, rfl, x, rfl, isOpts_of_owns (owns_fresh hown') ll⟩

set_option maxRecDepth 100000 in
set_option maxHeartbeats 1000000 in
theorem pboolsC {W : World} (x : Later W) (v : Value) (t : List (List Bool)) (h : IsBoolss W v t) (hn : t.length ≤ 65536) : Calls Try.prog 73 #[v] x.w (EndsTab W t) := by
  obtain ⟨a, c, rfl, ll, h⟩ := h.opened
  go_enter Try.func73, Try.ntmps73
  go_wp2
  go_loopw [2, 7] (fun v i wr => ∃ k : Nat, k ≤ t.length ∧ i = .int .i64 k ∧ ∃ y : Later W, wr = y.w ∧ ∃ vs, OwnTab y v (t.take k) vs) (fun _ i _ => t.length - (intOf i).toNat)
  case atStart => exact ⟨0, Nat.zero_le _, rfl, x, rfl, [], by simpa using OwnTab.nil x⟩
  case round =>
    obtain ⟨k, hk, rfl, ⟨x, rfl, vs, hout⟩⟩ := hrel
    by_cases hlt : k < t.length
    · obtain ⟨bo, oo, rfl, hbo, u, c0, hu⟩ := h.out k hlt
      have hC := Lib.hid (pcloneB (Later.now x.w) u (nth t k) (hu.below x.h))
      obtain ⟨au, cu, rfl, lu, _⟩ := hu.opened
      have HS : Hid (t.take (k + 1) = t.take k ++ [nth t k]) := Lib.hid (by rw [List.take_succ_eq_append_getElem hlt, nth_eq t k hlt])
      have hlen : Hid ((t.take k).length = k) := Lib.hid (by simp; omega)
      have hlt2 := Lib.hid hout.block
      obtain ⟨av, cv, rfl⟩ := hout.slice
      have hO := Lib.hid hout
      clear hout hu
      rw [hlen.out]
      go_wp2_with (first | (go_at_call 74; refine hC.out.mono ?_; rintro e w' ⟨v3, rfl, y, rfl, hrow⟩; obtain ⟨A3, c3, rfl⟩ := owns_slice hrow; have hO2 := Lib.hid (hO.out.later (z := x.up y) y.h); have hrow3 := Lib.hid hrow; clear hrow) | (at_builtin; rw [hlen.out] at hO2; refine wpList_appTab (x.up y) rfl _ _ rfl _ _ _ (by rfl) hO2.out _ (nth t k) x.w.heap.size x.h.size hrow3.out hlt2.out (by rfl) (by rw [hlen.out]; omega) ?_; intro v' z hout'))
      go_roundw
      case rel => exact ⟨k + 1, by omega, by go_num, z, rfl, _, by rw [HS.out]; exact hout'⟩
      case measure => simp [intOf]; omega
    · obtain rfl : k = t.length := by omega
      go_wp2
      go_ret
      exact ⟨_, rfl, x, rfl, vs, by rw [List.take_length] at hout; exact hout⟩

/-- a number stands in a list -/
def hasI (l : List Int) (a : Int) : Bool := decide (0 ≤ idxL l a)
theorem hasI_iff {l : List Int} {a : Int} : hasI l a = true ↔ a ∈ l := by
  unfold hasI idxL
  by_cases h : a ∈ l <;> simp [h]
set_option maxRecDepth 100000 in
set_option maxHeartbeats 1000000 in
theorem phasI {W : World} (x : Later W) (v : Value) (l : List Int) (a : Int) (h : IsInts W v l) : Calls Try.prog 75 #[v, .int .i64 a] x.w (Ends W (.bool (hasI l a))) := by
  have hC := Lib.hid (pindexI x v l a h)
  obtain ⟨A, c, rfl, _, _⟩ := h
  go_enter Try.func75, Try.ntmps75
  go_wp2_with (go_at_call 126; refine hC.out.mono ?_; rintro e w' ⟨rfl, x, rfl⟩)
  go_ret
  exact ⟨rfl, x, rfl⟩
end Go.Proofs.Ytmpkbolabdmkkaa

/- A PROBLEM WITH THE RULES OF SOME ITEMS ONLY, in plain Lean. -/
namespace Go.Proofs.Ytmpkbolabdmkkaa

def risingB (l : List Int) : Bool := decide (∀ i, i < l.length → 0 < i → nth l (i - 1) < nth l i)
theorem risingB_no {l : List Int} {i : Nat} (hi : i < l.length) (h0 : 0 < i) (h : nth l i ≤ nth l (i - 1)) : risingB l = false := by
  unfold risingB; rw [decide_eq_false_iff_not]; intro h'; have := h' i hi h0; omega
theorem risingB_yes {l : List Int} (h : ∀ i, i < l.length → 0 < i → nth l (i - 1) < nth l i) : risingB l = true := by
  unfold risingB; rw [decide_eq_true_iff]; exact h
def onlyTo (p : Prob) (it : List Int) : Nat → List Rl
  | 0 => []
  | k + 1 => if hasI it (nth p.rules k).item = true then onlyTo p it k ++ [nth p.rules k] else onlyTo p it k
def onlyP (p : Prob) (it : List Int) : Prob := ⟨p.panes, p.opts, onlyTo p it p.rules.length⟩
def onlyE (p : Prob) (it : List Int) : Int := if validP p = true then (if risingB it = true then 0 else 1) else 70
theorem onlyTo_len (p : Prob) (it : List Int) : ∀ k, (onlyTo p it k).length ≤ k
  | 0 => Nat.le_refl _
  | k + 1 => by have := onlyTo_len p it k; unfold onlyTo; split <;> simp <;> omega
theorem onlyTo_yes {p : Prob} {it : List Int} {k : Nat} (h : hasI it (nth p.rules k).item = true) : onlyTo p it (k + 1) = onlyTo p it k ++ [nth p.rules k] := by
  show (if _ then _ else _) = _; rw [if_pos h]
theorem onlyTo_no {p : Prob} {it : List Int} {k : Nat} (h : hasI it (nth p.rules k).item = false) : onlyTo p it (k + 1) = onlyTo p it k := by
  show (if _ then _ else _) = _; rw [if_neg (by simp [h])]
theorem onlyE_70 {p : Prob} {it : List Int} (h : validP p = false) : onlyE p it = 70 := by unfold onlyE; rw [if_neg (by simp [h])]
theorem onlyE_1 {p : Prob} {it : List Int} (h : validP p = true) (h2 : risingB it = false) : onlyE p it = 1 := by unfold onlyE; rw [if_pos h, if_neg (by simp [h2])]
theorem onlyE_0 {p : Prob} {it : List Int} (h : validP p = true) (h2 : risingB it = true) : onlyE p it = 0 := by unfold onlyE; rw [if_pos h, if_pos h2]
end Go.Proofs.Ytmpkbolabdmkkaa

/- CONTRACTS of the reference's rising, has, copied. -/
namespace Go.Proofs.Ytmpkbolabdmkkaa
open Go.RowKit

set_option maxRecDepth 100000 in
set_option maxHeartbeats 1000000 in
theorem rrising {W : World} (x : Later W) (v : Value) (l : List Int) (h : IsInts W v l) : Calls Try.prog 76 #[v] x.w (Ends W (.bool (risingB l))) := by
  obtain ⟨A, c, rfl, ll, hI⟩ := h.opened
  clear h
  go_enter Try.func76, Try.ntmps76
  go_wp2
  go_loopw [3] (fun iv wr => ∃ k : Nat, 1 ≤ k ∧ (k ≤ l.length ∨ k = 1) ∧ iv = .int .i64 k ∧ (∃ y : Later W, wr = y.w) ∧ (∀ i, i < k → i < l.length → 0 < i → nth l (i - 1) < nth l i)) (fun iv _ => l.length - (intOf iv).toNat)
  case atStart => exact ⟨1, Nat.le_refl _, .inr rfl, rfl, ⟨x, rfl⟩, by omega⟩
  case round =>
    clear x
    obtain ⟨k, hk1, hk2, rfl, ⟨x, rfl⟩, hz⟩ := hrel
    replace hz := Lib.hid hz
    by_cases hlt : k < l.length
    · obtain ⟨b, o, rfl, hb, d1⟩ := hI.out k hlt
      obtain ⟨_, _, he, _, d0⟩ := hI.out (k - 1) (by omega)
      cases he
      have hsub : ((k : Int) - 1).toNat = k - 1 := by omega
      have hwr : IntKind.i64.wrap ((k : Int) - 1) = (k : Int) - 1 := by rw [IntKind.wrap_i64]; omega
      have hn0 : decide ((k : Int) - 1 < 0) = false := by simp; omega
      cases hA : decide (nth l k ≤ nth l (k - 1))
      · go_wp2
        refine wp_region_later x (by kernel_rfl) (by kernel_rfl) ?_
        repeat (go_big_quiet_step (fail))
        refine wpQuiet_nil ?_
        rintro _ ⟨x, rfl⟩
        go_wp2
        go_roundw
        case rel => exact ⟨k + 1, by omega, by omega, by go_num, ⟨x, rfl⟩, fun i hi h1 h2 => by
          rcases Nat.lt_succ_iff_lt_or_eq.1 hi with h3 | rfl
          · exact hz.out i h3 h1 h2
          · simpa using hA⟩
        case measure => simp [intOf]; omega
      · have hbad : Hid (risingB l = false) := Lib.hid (risingB_no hlt (by omega) (by simpa using hA))
        go_wp2
        refine wp_region_later x (by kernel_rfl) (by kernel_rfl) ?_
        repeat (go_big_quiet_step (fail))
        refine wpQuiet_nil ?_
        rintro _ ⟨x, rfl⟩
        go_wp2
        go_ret; exact ⟨ret_bool hbad.out.symm, x, rfl⟩
    · have hgood : Hid (risingB l = true) := Lib.hid (risingB_yes fun i hi h0 => hz.out i (by omega) hi h0)
      go_wp2
      go_ret; exact ⟨ret_bool hgood.out.symm, x, rfl⟩

set_option maxRecDepth 100000 in
set_option maxHeartbeats 1000000 in
theorem rhas {W : World} (x : Later W) (v : Value) (l : List Int) (a : Int) (h : IsInts W v l) : Calls Try.prog 77 #[v, .int .i64 a] x.w (Ends W (.bool (hasI l a))) := by
  obtain ⟨A, c, rfl, ll, hI⟩ := h.opened
  clear h
  have hyes : Hid (∀ k, k < l.length → nth l k = a → hasI l a = true) := Lib.hid (fun k hk e => hasI_iff.2 (e ▸ nth_mem hk))
  have hno : Hid ((∀ i, i < l.length → nth l i ≠ a) → hasI l a = false) := Lib.hid (fun h => by
    rw [← Bool.not_eq_true, hasI_iff]
    intro hm
    obtain ⟨i, hi, rfl⟩ := List.getElem_of_mem hm
    exact h i hi (nth_eq l i hi))
  go_enter Try.func77, Try.ntmps77
  go_wp2
  go_loopw [5] (fun i wr => ∃ k : Nat, k ≤ l.length ∧ i = .int .i64 k ∧ (∃ y : Later W, wr = y.w) ∧ (∀ i, i < k → nth l i ≠ a)) (fun i _ => l.length - (intOf i).toNat)
  case atStart => exact ⟨0, Nat.zero_le _, rfl, ⟨x, rfl⟩, by omega⟩
  case round =>
    obtain ⟨k, hk, rfl, ⟨x, rfl⟩, hz⟩ := hrel
    replace hz := Lib.hid hz
    by_cases hlt : k < l.length
    · obtain ⟨b, o, rfl, hb, c0⟩ := hI.out k hlt
      cases hA : (nth l k == a)
      · go_wp2
        go_roundw
        case rel => exact ⟨k + 1, by omega, by go_num, ⟨x, rfl⟩, all_step hz.out (ne_beqI hA)⟩
        case measure => simp [intOf]; omega
      · go_wp2
        go_ret
        exact ⟨ret_bool (hyes.out k hlt (eq_beqI hA)).symm, x, rfl⟩
    · obtain rfl : k = l.length := by omega
      go_wp2
      go_ret
      exact ⟨ret_bool (hno.out hz.out).symm, x, rfl⟩

set_option maxRecDepth 100000 in
set_option maxHeartbeats 1000000 in
theorem rcopied {W : World} (x : Later W) (v : Value) (t : List (List Bool)) (h : IsBoolss W v t) (hn : t.length ≤ 65536) : Calls Try.prog 127 #[v] x.w (EndsTab W t) := by
  obtain ⟨a, c, rfl, ll, h⟩ := h.opened
  go_enter Try.func127, Try.ntmps127
  go_wp2
  go_loopw [3, 4] (fun v i wr => ∃ k : Nat, k ≤ t.length ∧ i = .int .i64 k ∧ ∃ y : Later W, wr = y.w ∧ ∃ vs, OwnTab y v (t.take k) vs) (fun _ i _ => t.length - (intOf i).toNat)
  case atStart => exact ⟨0, Nat.zero_le _, rfl, x, rfl, [], by simpa using OwnTab.nil x⟩
  case round =>
    obtain ⟨k, hk, rfl, ⟨x, rfl, vs, hout⟩⟩ := hrel
    by_cases hlt : k < t.length
    · obtain ⟨bo, oo, rfl, hbo, u, c0, hu⟩ := h.out k hlt
      obtain ⟨au, cu, rfl, lu, hu2⟩ := (hu.below x.h).opened
      have HS : Hid (t.take (k + 1) = t.take k ++ [nth t k]) := Lib.hid (by rw [List.take_succ_eq_append_getElem hlt, nth_eq t k hlt])
      have hlen : Hid ((t.take k).length = k) := Lib.hid (by simp; omega)
      have hlt2 := Lib.hid hout.block
      obtain ⟨av, cv, rfl⟩ := hout.slice
      have hO := Lib.hid hout
      have q0 := Later.cells x.h c0
      have qb := Later.sizes x.h hbo
      clear hout hu
      rw [hlen.out]
      obtain ⟨z, hz, hown⟩ := owns_empty (Later.now x.w) 4 1
      change x.w.alloc _ = _ at hz
      go_wp2_with (first | (at_builtin; refine wpList_appN z 52 4 _ 1 1 Try.info4 rfl (by decide) Try.underlying52 rfl _ _ rfl _ _ _ (by rfl) hown _ (nth t k).length cu ((nth t k).map Value.bool) (by rfl) (by simp) (bools_cells hu2.out z) (bools_one _) (by omega) (by omega) ?_; intro v3 y hrow _; obtain ⟨A3, c3, rfl⟩ := owns_slice hrow; simp only [Nat.zero_add, List.nil_append] at hrow; rw [Nat.zero_add]; have hO2 := Lib.hid (hO.out.later (z := x.up y) y.h); have hrow3 := Lib.hid hrow; clear hrow) | (at_builtin; rw [hlen.out] at hO2; refine wpList_appTab (x.up y) rfl _ _ rfl _ _ _ (by rfl) hO2.out _ (nth t k) x.w.heap.size x.h.size hrow3.out hlt2.out (by rfl) (by rw [hlen.out]; omega) ?_; intro v' z hout'))
      go_roundw
      case rel => exact ⟨k + 1, by omega, by go_num, z, rfl, _, by rw [HS.out]; exact hout'⟩
      case measure => simp [intOf]; omega
    · obtain rfl : k = t.length := by omega
      go_wp2
      go_ret
      exact ⟨_, rfl, x, rfl, vs, by rw [List.take_length] at hout; exact hout⟩
end Go.Proofs.Ytmpkbolabdmkkaa
