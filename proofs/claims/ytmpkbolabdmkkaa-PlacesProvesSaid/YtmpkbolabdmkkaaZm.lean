/- CONTRACT of the laws' example. -/
import Derived.Test.YtmpkbolabdmkkaaZPlU
import Derived.Test.YtmpkbolabdmkkaaZe
import Derived.Test.YtmpkbolabdmkkaaZc
import Derived.Test.YtmpkbolabdmkkaaZd
import Derived.Test.YtmpkbolabdmkkaaZh
import Derived.Test.YtmpkbolabdmkkaaZl
namespace Go.Proofs.Ytmpkbolabdmkkaa
open Go.RowKit

/-- the example of the document -/
def exOpts : List Opt := [⟨5, 0, false, 1⟩, ⟨6, 0, false, 2⟩, ⟨0, 0, false, 1⟩]
def exLost : List Bool := [false, false, true]
def exOK : List (List Bool) := [[true, true, true], [false, true, true], [true, true, true]]
def exP : Prob := ⟨[1, 2], [exOpts, exOpts], [⟨3, 1, [0, 1], [exLost, exLost], 0, 0, []⟩, ⟨4, 2, [0, 1], [], 0, 0, exOK⟩]⟩

set_option maxRecDepth 100000 in
theorem ex_reason : reasonE exP 0 1 = 0 ∧ reasonL exP 0 1 = [3, 4] := by decide
theorem ex_clash : clashE exP = 3 := by decide
theorem ex_count : countV exP = 1 ∧ largeE exP = 0 := by decide
theorem ex_first : firstE exP = 0 ∧ firstL exP = [0, 1] := by decide

theorem foldl_heap (l : List Obj) : ∀ w : World, (l.foldl World.alloc w).heap.size = w.heap.size + l.length ∧ Below w.heap.size w (l.foldl World.alloc w) ∧ ∀ j, j < l.length → (l.foldl World.alloc w).heap[w.heap.size + j]? = l[j]? := by
  induction l with
  | nil => exact fun w => ⟨rfl, Below.refl _ _, fun j h => absurd h (Nat.not_lt_zero _)⟩
  | cons o l ih =>
    intro w
    obtain ⟨h1, h2, h3⟩ := ih (w.alloc o)
    have hs : (w.alloc o).heap.size = w.heap.size + 1 := by simp
    refine ⟨by rw [List.foldl_cons, h1, hs, List.length_cons]; omega, (below_alloc1 w o).trans (h2.mono (by omega)), fun j hj => ?_⟩
    cases j with
    | zero =>
      rw [List.foldl_cons, Nat.add_zero, h2.block _ (by omega)]
      exact World.alloc_heap_new w o
    | succ j =>
      have := h3 j (by simpa using hj)
      rw [hs] at this
      rw [List.foldl_cons, show w.heap.size + (j + 1) = w.heap.size + 1 + j by omega, this]; rfl
theorem cell_blk {w : World} {b i : Nat} {c : Array Value} {t : TypeId} (h : w.heap[b]? = some (.cells c t)) : w.cell? ⟨b, i, none⟩ = c[i]? := by simp [World.cell?, h]
theorem lt_blk {w : World} {b : Nat} {o : Obj} (h : w.heap[b]? = some o) : b < w.heap.size := (Array.getElem?_eq_some_iff.1 h).1
theorem ints_lit {w : World} {b n c : Nat} {t : TypeId} (l : List Int) (h : w.heap[b]? = some (.cells (l.map (Value.int .i64)).toArray t)) (hn : n = l.length) (hl : l.length ≤ 100) : IsInts w (.slice (some ⟨b, 0, none⟩) n c) l := by
  subst hn
  refine ⟨_, _, rfl, by omega, fun i hi => ⟨b, 0, rfl, lt_blk h, ?_⟩⟩
  rw [Nat.zero_add, cell_blk h, nth_eq l i hi]; simp [hi]
theorem bools_lit {w : World} {b n c : Nat} {t : TypeId} (l : List Bool) (h : w.heap[b]? = some (.cells (l.map Value.bool).toArray t)) (hn : n = l.length) (hl : l.length ≤ 100) : IsBools w (.slice (some ⟨b, 0, none⟩) n c) l := by
  subst hn
  refine ⟨_, _, rfl, by omega, fun i hi => ⟨b, 0, rfl, lt_blk h, ?_⟩⟩
  rw [Nat.zero_add, cell_blk h, nth_eq l i hi]; simp [hi]
theorem opts_lit {w : World} {b : Nat} {t : TypeId} (h : w.heap[b]? = some (.cells #[.int .i64 5, .int .i64 0, .bool false, .int .i64 1, .int .i64 6, .int .i64 0, .bool false, .int .i64 2, .int .i64 0, .int .i64 0, .bool false, .int .i64 1] t)) : IsOpts w (.slice (some ⟨b, 0, none⟩) 3 3) exOpts := by
  refine ⟨_, _, rfl, by decide, fun i hi => ⟨b, 0, rfl, lt_blk h, ?_⟩⟩
  match i, hi with
  | 0, _ => exact ⟨cell_blk h, cell_blk h, cell_blk h, cell_blk h⟩
  | 1, _ => exact ⟨cell_blk h, cell_blk h, cell_blk h, cell_blk h⟩
  | 2, _ => exact ⟨cell_blk h, cell_blk h, cell_blk h, cell_blk h⟩

set_option maxRecDepth 100000 in
set_option maxHeartbeats 1000000 in
theorem lexample {W : World} (x : Later W) : Calls Try.prog 64 #[] x.w (fun e w' => ∃ v0 v1 v2, e = .returned (.agg #[v0, v1, v2]) ∧ ∃ y : Later W, w' = y.w ∧ IsProb y.w v0 v1 v2 exP) := by
  go_enter Try.func64, Try.ntmps64
  go_wp2
  obtain ⟨B, hB⟩ : ∃ B, B = x.w.heap.size := ⟨_, rfl⟩
  obtain ⟨os, hos⟩ : ∃ os : List Obj, os = [
    .cells #[.slice (some ⟨B + 7, 0, none⟩) 2 2, .slice (some ⟨B + 8, 0, none⟩) 2 2, .slice (some ⟨B + 12, 0, none⟩) 2 2] 26,
    .cells #[.int .i64 5, .int .i64 0, .bool false, .int .i64 1, .int .i64 6, .int .i64 0, .bool false, .int .i64 2, .int .i64 0, .int .i64 0, .bool false, .int .i64 1] 57,
    .cells #[.bool false, .bool false, .bool true] 4, .cells #[.bool true, .bool true, .bool true] 4, .cells #[.bool false, .bool true, .bool true] 4, .cells #[.bool true, .bool true, .bool true] 4,
    .cells #[.slice (some ⟨B + 3, 0, none⟩) 3 3, .slice (some ⟨B + 4, 0, none⟩) 3 3, .slice (some ⟨B + 5, 0, none⟩) 3 3] 52,
    .cells #[.int .i64 1, .int .i64 2] 3, .cells #[.slice (some ⟨B + 1, 0, none⟩) 3 3, .slice (some ⟨B + 1, 0, none⟩) 3 3] 39, .cells #[.int .i64 0, .int .i64 1] 3,
    .cells #[.slice (some ⟨B + 2, 0, none⟩) 3 3, .slice (some ⟨B + 2, 0, none⟩) 3 3] 52, .cells #[.int .i64 0, .int .i64 1] 3,
    .cells #[.int .i64 3, .int .i64 1, .slice (some ⟨B + 9, 0, none⟩) 2 2, .slice (some ⟨B + 10, 0, none⟩) 2 2, .int .i64 0, .int .i64 0, .slice none 0 0, .int .i64 4, .int .i64 2, .slice (some ⟨B + 11, 0, none⟩) 2 2, .slice none 0 0, .int .i64 0, .int .i64 0, .slice (some ⟨B + 6, 0, none⟩) 3 3] 87] := ⟨_, rfl⟩
  obtain ⟨h1, h2, h3⟩ := foldl_heap os x.w
  have hlen : os.length = 13 := by rw [hos]; rfl
  rw [← hB] at h1 h3
  obtain ⟨y, hy⟩ := x.step h2
  have g := fun j (hj : j < 13) => h3 j (by omega)
  obtain ⟨V, hV⟩ : ∃ V, V = os.foldl World.alloc x.w := ⟨_, rfl⟩
  rw [← hV] at g hy
  have key : ∀ tmps : Array Value, tmps.getD 0 undef = .pointer (some ⟨B, 0, none⟩) → bodyPost Try.prog Try.f64 (fun e w' => ∃ v0 v1 v2, e = Ending.returned (Value.agg #[v0, v1, v2]) ∧ ∃ y : Later W, w' = y.w ∧ IsProb y.w v0 v1 v2 exP) Exit.ret { tmps := tmps, defers := [] } V := by
    intro tmps htm
    rw [hos] at g
    have g0 : V.heap[B]? = _ := g 0 (by decide)
    have g1 := g 1 (by decide)
    have g2 := g 2 (by decide)
    have g3 := g 3 (by decide)
    have g4 := g 4 (by decide)
    have g5 := g 5 (by decide)
    have g6 := g 6 (by decide)
    have g7 := g 7 (by decide)
    have g8 := g 8 (by decide)
    have g9 := g 9 (by decide)
    have g10 := g 10 (by decide)
    have g11 := g 11 (by decide)
    have g12 := g 12 (by decide)
    refine bodyPost_ret (results_cell_row rfl _ _ B 26 _ (0, 0) _ htm g0 Try.underlying26 rfl (by kernel_rfl)) rfl ?_
    refine ⟨_, _, _, rfl, y, hy, ?_⟩
    rw [← hy]
    clear hy hV hos g h1 h2 h3
    have o1 := opts_lit g1
    have l2 := bools_lit exLost (c := 3) g2 rfl (by decide)
    have l3 := bools_lit [true, true, true] (c := 3) g3 rfl (by decide)
    have l4 := bools_lit [false, true, true] (c := 3) g4 rfl (by decide)
    have l5 := bools_lit [true, true, true] (c := 3) g5 rfl (by decide)
    have i7 := ints_lit [1, 2] (c := 2) g7 rfl (by decide)
    have i9 := ints_lit [0, 1] (c := 2) g9 rfl (by decide)
    have i11 := ints_lit [0, 1] (c := 2) g11 rfl (by decide)
    have t6 : IsBoolss V (.slice (some ⟨B + 6, 0, none⟩) 3 3) exOK := by
      refine ⟨_, _, rfl, by decide, fun i hi => ⟨B + 6, 0, rfl, lt_blk g6, ?_⟩⟩
      match i, hi with
      | 0, _ => exact ⟨_, cell_blk g6, l3⟩
      | 1, _ => exact ⟨_, cell_blk g6, l4⟩
      | 2, _ => exact ⟨_, cell_blk g6, l5⟩
    have t10 : IsBoolss V (.slice (some ⟨B + 10, 0, none⟩) 2 2) [exLost, exLost] := by
      refine ⟨_, _, rfl, by decide, fun i hi => ⟨B + 10, 0, rfl, lt_blk g10, ?_⟩⟩
      match i, hi with
      | 0, _ => exact ⟨_, cell_blk g10, l2⟩
      | 1, _ => exact ⟨_, cell_blk g10, l2⟩
    have t0 : IsBoolss V (.slice none 0 0) [] := ⟨none, 0, rfl, by decide, fun _ h => absurd h (Nat.not_lt_zero _)⟩
    refine ⟨i7, ?_, ?_⟩
    · refine ⟨_, _, rfl, by decide, fun i hi => ⟨B + 8, 0, rfl, lt_blk g8, ?_⟩⟩
      match i, hi with
      | 0, _ => exact ⟨_, cell_blk g8, o1⟩
      | 1, _ => exact ⟨_, cell_blk g8, o1⟩
    · refine ⟨_, _, rfl, by decide, fun i hi => ⟨B + 12, 0, rfl, lt_blk g12, ?_⟩⟩
      match i, hi with
      | 0, _ => exact ⟨_, _, _, cell_blk g12, cell_blk g12, cell_blk g12, cell_blk g12, cell_blk g12, cell_blk g12, cell_blk g12, i9, t10, t0⟩
      | 1, _ => exact ⟨_, _, _, cell_blk g12, cell_blk g12, cell_blk g12, cell_blk g12, cell_blk g12, cell_blk g12, cell_blk g12, i11, t0, t6⟩
  have hT : ∀ (tmps : Array Value) (V' : World), V' = V → tmps.getD 0 undef = .pointer (some ⟨B, 0, none⟩) → bodyPost Try.prog Try.f64 (fun e w' => ∃ v0 v1 v2, e = Ending.returned (Value.agg #[v0, v1, v2]) ∧ ∃ y : Later W, w' = y.w ∧ IsProb y.w v0 v1 v2 exP) Exit.ret { tmps := tmps, defers := [] } V' := by rintro tmps _ rfl ht; exact key tmps ht
  refine hT _ _ ?_ (by rw [hB]; rfl)
  rw [hV, hos, hB]
  rfl
end Go.Proofs.Ytmpkbolabdmkkaa

/- CONTRACT of the laws' awake. -/
namespace Go.Proofs.Ytmpkbolabdmkkaa
open Go.RowKit

/-- two numbers in memory -/
theorem two_ints {w : World} {v : Value} {a b : Int} (h : IsInts w v [a, b]) : ∃ g o c, v = .slice (some ⟨g, o, none⟩) 2 c ∧ (∀ y : Later w, g < y.w.heap.size) ∧ (∀ y : Later w, y.w.cell? ⟨g, o, none⟩ = some (.int .i64 a)) ∧ ∀ y : Later w, y.w.cell? ⟨g, o + 1, none⟩ = some (.int .i64 b) := by
  obtain ⟨A, c, rfl, _, hI⟩ := h.opened
  obtain ⟨g, o, rfl, hs, c0⟩ := hI.out 0 (by simp)
  obtain ⟨g', o', he, _, c1⟩ := hI.out 1 (by simp)
  cases he
  exact ⟨g, o, c, rfl, hs, c0, c1⟩

set_option maxRecDepth 100000 in
set_option maxHeartbeats 1000000 in
theorem lawake {W : World} (x : Later W) : Calls Try.prog 14 #[] x.w (Ends W (.bool true)) := by
  obtain ⟨hr1, hr2⟩ := ex_reason
  have hc := ex_clash
  obtain ⟨hn1, hn2⟩ := ex_count
  obtain ⟨hf1, hf2⟩ := ex_first
  replace hr2 := Lib.hid hr2
  replace hf2 := Lib.hid hf2
  go_enter Try.func14, Try.ntmps14
  go_upto_region 2 with (go_at_call 64; refine (lexample x).mono ?_; rintro e w' ⟨v0, v1, v2, rfl, y, rfl, hp⟩; have HP0 := Lib.hid hp; obtain ⟨ap, cp, rfl, _, _⟩ := hp.panes.opened; obtain ⟨ao, co, rfl, _, _⟩ := hp.opts.opened; obtain ⟨ar, cr, rfl, _, _⟩ := hp.rules.opened; clear hp)
  obtain ⟨W1, x1, e1, hb1, s1, p0, p1, p2⟩ := enter3 (Later.now y.w) (.slice ap exP.panes.length cp) (.slice ao exP.opts.length co) (.slice ar exP.rules.length cr) 26
  change y.w.alloc _ = _ at e1
  rw [e1]; clear e1
  change ∀ z : Later W1, z.w.cell? ⟨y.w.heap.size, 0, none⟩ = _ at p0
  change ∀ z : Later W1, z.w.cell? ⟨y.w.heap.size, 1, none⟩ = _ at p1
  change ∀ z : Later W1, z.w.cell? ⟨y.w.heap.size, 2, none⟩ = _ at p2
  change ∀ z : Later W1, y.w.heap.size < z.w.heap.size at s1
  have hbW : Below W.heap.size W W1 := below_then y.h ⟨W1, hb1⟩
  have HP := Lib.hid (HP0.out.below hb1)
  go_upto_region 3 with (go_at_call 30; refine (pFirst x1 _ _ _ exP HP.out).mono ?_; rintro e w' ⟨v, rfl, x2, rfl, hI⟩; rw [hf2.out] at hI; obtain ⟨g1, o1, c1, rfl, hs1, hi1, hj1⟩ := two_ints hI; clear hI)
  have HP2 := Lib.hid (HP.out.below x2.h)
  replace p0 := Later.cells x2.h p0
  replace p1 := Later.cells x2.h p1
  replace p2 := Later.cells x2.h p2
  show Code.wp _ _ _ _ (Later.now x2.w).w
  have hb2 := below_then hbW x2
  generalize Later.now x2.w = x3
  go_upto_region 4 with (go_at_call 24; refine (pReason x3 _ _ _ exP 0 1 HP2.out).mono ?_; rintro e w' ⟨v, rfl, x4, rfl, hI⟩; rw [hr2.out] at hI; obtain ⟨g2, o2, c2, rfl, hs2, hi2, hj2⟩ := two_ints hI; clear hI)
  have HP3 := Lib.hid (HP2.out.below x4.h)
  replace p0 := Later.cells x4.h p0
  replace p1 := Later.cells x4.h p1
  replace p2 := Later.cells x4.h p2
  replace hi1 := Later.cells x4.h hi1
  replace hj1 := Later.cells x4.h hj1
  show Code.wp _ _ _ _ (Later.now x4.w).w
  have hb3 := below_then hb2 x4
  generalize Later.now x4.w = x5
  go_wp2_with (first | (go_at_call 22; refine (pClash x5 _ _ _ exP HP3.out).mono ?_; rintro e w' ⟨v, rfl, x6, rfl, hI⟩; obtain ⟨a3, c3, rfl, _, _⟩ := hI) | (go_at_call 28; refine (pCount x6 _ _ _ exP HP3.out).mono ?_; rintro e w' ⟨rfl, x7, rfl⟩))
  go_ret; exact ⟨rfl, ⟨x7.w, below_then hb3 x7⟩, rfl⟩
end Go.Proofs.Ytmpkbolabdmkkaa

/- CONTRACTS of the laws' shaped and PlacesValid. -/
namespace Go.Proofs.Ytmpkbolabdmkkaa
open Go.RowKit

/-- HOW A CALL ENDS that hands back one bool or the other -/
def EndsBool (W : World) (e : Ending) (w' : World) : Prop := ∃ b : Bool, e = .returned (.bool b) ∧ ∃ y : Later W, w' = y.w

set_option maxRecDepth 100000 in
set_option maxHeartbeats 1000000 in
theorem lshaped {W : World} (x : Later W) (v0 v1 v2 : Value) (p : Prob) (hp : IsProb W v0 v1 v2 p) : Calls Try.prog 31 #[.agg #[v0, v1, v2]] x.w (EndsBool W) := by
  go_enter Try.func31, Try.ntmps31
  go_upto_region 1 with (fail)
  obtain ⟨W1, x1, e1, hb1, s1, p0, p1, p2⟩ := enter3 x v0 v1 v2 26
  rw [e1]; clear e1
  obtain ⟨ap, cp, rfl, lp, _⟩ := (hp.panes.below hb1).opened
  obtain ⟨ao, co, rfl, lo, hopts⟩ := (hp.opts.below hb1).opened
  obtain ⟨ar, cr, rfl, lr, hr⟩ := (hp.rules.below hb1).opened
  clear hp
  by_cases g1 : 100 < p.panes.length
  · go_wp2
    go_ret; exact ⟨_, rfl, x1.down hb1⟩
  by_cases g2 : 100 < p.opts.length
  · go_wp2
    go_ret; exact ⟨_, rfl, x1.down hb1⟩
  by_cases g3 : 300 < p.rules.length
  · go_wp2
    go_ret; exact ⟨_, rfl, x1.down hb1⟩
  go_wp2
  go_loopw [3] (fun i wr => ∃ k : Nat, k ≤ p.opts.length ∧ i = .int .i64 k ∧ ∃ y : Later W1, wr = y.w) (fun i _ => p.opts.length - (intOf i).toNat)
  case atStart => exact ⟨0, Nat.zero_le _, rfl, x1, rfl⟩
  case round =>
    clear x1
    obtain ⟨k, hk, rfl, x1, rfl⟩ := hrel
    by_cases hlt : k < p.opts.length
    · obtain ⟨bo, oo, rfl, hbo, uo, co0, hO⟩ := hopts.out k hlt
      obtain ⟨av, cv, rfl, lv, _⟩ := hO.opened
      by_cases g4 : 300 < (nth p.opts k).length
      · go_wp2
        go_ret; exact ⟨_, rfl, x1.down hb1⟩
      · go_wp2
        go_roundw
        case rel => exact ⟨k + 1, by omega, by go_num, x1, rfl⟩
        case measure => simp [intOf]; omega
    · obtain rfl : k = p.opts.length := by omega
      go_wp2
      go_loopw [4] (fun i wr => ∃ k : Nat, k ≤ p.rules.length ∧ i = .int .i64 k ∧ ∃ y : Later W1, wr = y.w) (fun i _ => p.rules.length - (intOf i).toNat)
      case atStart => exact ⟨0, Nat.zero_le _, rfl, x1, rfl⟩
      case round =>
        clear x1
        obtain ⟨m, hm, rfl, x1, rfl⟩ := hrel
        by_cases hlt : m < p.rules.length
        · obtain ⟨bk, ok, rfl, hbk, u2, u3, u6, c0, c1, c2, c3, c4, c5, c6, hR⟩ := hr.out m hlt
          obtain ⟨aq, cq, rfl, _, _⟩ := hR.panes.opened
          obtain ⟨ah, ch, rfl, _, _⟩ := hR.hits.opened
          obtain ⟨ak, ck, rfl, _, _⟩ := hR.ok.opened
          clear hR
          by_cases g5 : 100 < (nth p.rules m).panes.length
          · go_wp2
            go_ret; exact ⟨_, rfl, x1.down hb1⟩
          by_cases g6 : 100 < (nth p.rules m).hits.length
          · go_wp2
            go_ret; exact ⟨_, rfl, x1.down hb1⟩
          by_cases g7 : 300 < (nth p.rules m).ok.length
          · go_wp2
            go_ret; exact ⟨_, rfl, x1.down hb1⟩
          go_wp2
          go_roundw
          case rel => exact ⟨m + 1, by omega, by go_num, x1, rfl⟩
          case measure => simp [intOf]; omega
        · obtain rfl : m = p.rules.length := by omega
          go_wp2
          go_ret; exact ⟨_, rfl, x1.down hb1⟩

set_option maxRecDepth 100000 in
set_option maxHeartbeats 2000000 in
theorem lawValid {W : World} (x : Later W) (v0 v1 v2 vf : Value) (p : Prob) (f : List Int) (hp : IsProb W v0 v1 v2 p) (hf : IsInts W vf f) : Calls Try.prog 5 #[.agg #[v0, v1, v2], vf] x.w (Ends W (.bool true)) := by
  go_enter Try.func5, Try.ntmps5
  go_upto_region 1 with (fail)
  obtain ⟨W1, x1, e1, hb1, s1, p0, p1, p2⟩ := enter3 x v0 v1 v2 26
  rw [e1]; clear e1
  have HP := Lib.hid (hp.below hb1)
  have HF := Lib.hid (hf.below hb1)
  obtain ⟨ap, cp, rfl, lp, _⟩ := hp.panes.opened
  obtain ⟨ao, co, rfl, lo, _⟩ := hp.opts.opened
  obtain ⟨ar, cr, rfl, lr, _⟩ := hp.rules.opened
  obtain ⟨af, cf, rfl, lf, _⟩ := hf.opened
  clear hp hf
  go_upto_region 2 with (go_at_call 14; refine (lawake x1).mono ?_; rintro e w' ⟨rfl, x1, rfl⟩)
  go_wp2_with (fail)
  refine (lshaped x1 _ _ _ p HP.out).mono ?_
  rintro e w' ⟨bs, rfl, x1, rfl⟩
  cases bs
  · go_wp2
    go_ret; exact ⟨rfl, x1.down hb1⟩
  by_cases g1 : 200 < f.length
  · go_wp2
    go_ret; exact ⟨rfl, x1.down hb1⟩
  go_upto_region 8 with (first | (go_at_call 32; refine (pSpace x1 _ _ _ p HP.out).mono ?_; rintro e w' ⟨rfl, x1, rfl⟩) | (go_at_call 33; refine (rSpace x1 _ _ _ p HP.out).mono ?_; rintro e w' ⟨rfl, x1, rfl⟩) | (go_at_call 34; refine (pSound x1 _ _ _ _ p f HP.out HF.out).mono ?_; rintro e w' ⟨rfl, x1, rfl⟩) | (go_at_call 35; refine (rSound x1 _ _ _ _ p f HP.out HF.out).mono ?_; rintro e w' ⟨rfl, x1, rfl⟩))
  refine wp_region_later x1 (by kernel_rfl) (by kernel_rfl) ?_
  repeat (go_big_quiet_step ((first | (go_at_call 36; exact pValid _ _ _ _ p HP.out) | (go_at_call 27; exact rValid _ _ _ _ p HP.out))))
  refine wpQuiet_nil ?_
  rintro _ ⟨x1, rfl⟩
  go_upto_region 11 with (go_at_call 37; refine (pBreaks x1 _ _ _ _ p f HP.out HF.out).mono ?_; rintro e w' ⟨u, rfl, x2, rfl, hI1⟩; have I1 := Lib.hid hI1; obtain ⟨a1, c1, rfl, _, _⟩ := hI1)
  have HP2 := Lib.hid (HP.out.below x2.h)
  have HF2 := Lib.hid (HF.out.below x2.h)
  replace p0 := Later.cells x2.h p0
  replace p1 := Later.cells x2.h p1
  replace p2 := Later.cells x2.h p2
  show Code.wp _ _ _ _ (Later.now x2.w).w
  have hB2 : Below W.heap.size W x2.w := below_then hb1 x2
  generalize Later.now x2.w = x3
  go_upto_region 12 with (go_at_call 38; refine (rBreaks x3 _ _ _ _ p f HP2.out HF2.out).mono ?_; rintro e w' ⟨u, rfl, x4, rfl, hI2⟩; have I2 := Lib.hid hI2; obtain ⟨a2, c2, rfl, _, _⟩ := hI2)
  have HP3 := Lib.hid (HP2.out.below x4.h)
  have HF3 := Lib.hid (HF2.out.below x4.h)
  replace p0 := Later.cells x4.h p0
  replace p1 := Later.cells x4.h p1
  replace p2 := Later.cells x4.h p2
  replace I1 := Lib.hid (I1.out.below x4.h)
  show Code.wp _ _ _ _ (Later.now x4.w).w
  have hB3 : Below W.heap.size W x4.w := below_then hB2 x4
  generalize Later.now x4.w = x5
  go_upto_region 13 with (go_at_call 39; refine (pViolates x5 _ _ _ _ p f HP3.out HF3.out).mono ?_; rintro e w' ⟨u, rfl, x6, rfl, hI3⟩; have I3 := Lib.hid hI3; obtain ⟨a3, c3, rfl, _, _⟩ := hI3)
  have HP4 := Lib.hid (HP3.out.below x6.h)
  have HF4 := Lib.hid (HF3.out.below x6.h)
  replace p0 := Later.cells x6.h p0
  replace p1 := Later.cells x6.h p1
  replace p2 := Later.cells x6.h p2
  replace I1 := Lib.hid (I1.out.below x6.h)
  replace I2 := Lib.hid (I2.out.below x6.h)
  show Code.wp _ _ _ _ (Later.now x6.w).w
  have hB4 : Below W.heap.size W x6.w := below_then hB3 x6
  generalize Later.now x6.w = x7
  go_upto_region 14 with (go_at_call 40; refine (rViolates x7 _ _ _ _ p f HP4.out HF4.out).mono ?_; rintro e w' ⟨u, rfl, x8, rfl, hI4⟩; have I4 := Lib.hid hI4; obtain ⟨a4, c4, rfl, _, _⟩ := hI4)
  have HP5 := Lib.hid (HP4.out.below x8.h)
  have HF5 := Lib.hid (HF4.out.below x8.h)
  replace p0 := Later.cells x8.h p0
  replace p1 := Later.cells x8.h p1
  replace p2 := Later.cells x8.h p2
  replace I1 := Lib.hid (I1.out.below x8.h)
  replace I2 := Lib.hid (I2.out.below x8.h)
  replace I3 := Lib.hid (I3.out.below x8.h)
  show Code.wp _ _ _ _ (Later.now x8.w).w
  have hB5 : Below W.heap.size W x8.w := below_then hB4 x8
  generalize Later.now x8.w = x9
  have hS1 : Hid (∀ y : Later x8.w, Calls Try.prog 20 #[.slice a1 (brkL p f).length c1, .slice a2 (brkL p f).length c2] y.w (Ends x8.w (.bool true))) := Lib.hid (fun y => by have h := rSameInts y _ _ _ _ I1.out I2.out; rw [decide_eq_true rfl] at h; exact h)
  have hS2 : Hid (∀ y : Later x8.w, Calls Try.prog 20 #[.slice a3 (vioL p f).length c3, .slice a4 (vioL p f).length c4] y.w (Ends x8.w (.bool true))) := Lib.hid (fun y => by have h := rSameInts y _ _ _ _ I3.out I4.out; rw [decide_eq_true rfl] at h; exact h)
  go_upto_region 16 with (first | (go_at_call 41; refine (pAgrees x9 _ _ _ _ p f HP5.out HF5.out).mono ?_; rintro e w' ⟨rfl, x9, rfl⟩) | (go_at_call 42; refine (rAgrees x9 _ _ _ _ p f HP5.out HF5.out).mono ?_; rintro e w' ⟨rfl, x9, rfl⟩))
  go_wp2_with (first | (go_at_call 20; have hx := x10.h; clear hx; refine (hS2.out x10).mono ?_; rintro e w' ⟨rfl, x11, rfl⟩) | (go_at_call 20; refine (hS1.out x9).mono ?_; rintro e w' ⟨rfl, x10, rfl⟩))
  go_ret; exact ⟨rfl, ⟨x11.w, below_then hB5 x11⟩, rfl⟩
end Go.Proofs.Ytmpkbolabdmkkaa

/- CONTRACTS of the laws' light, chosen, before, single; of the library's Index and Contains of bools. -/
namespace Go.Proofs.Ytmpkbolabdmkkaa
open Go.RowKit

set_option maxRecDepth 100000 in
set_option maxHeartbeats 1000000 in
theorem llight {W : World} (x : Later W) (v0 v1 v2 : Value) (p : Prob) (hp : IsProb W v0 v1 v2 p) : Calls Try.prog 15 #[.agg #[v0, v1, v2]] x.w (EndsBool W) := by
  go_enter Try.func15, Try.ntmps15
  go_upto_region 1 with (fail)
  obtain ⟨W1, x1, e1, hb1, s1, p0, p1, p2⟩ := enter3 x v0 v1 v2 26
  rw [e1]; clear e1
  have HP := Lib.hid (hp.below hb1)
  obtain ⟨ap, cp, rfl, lp, _⟩ := hp.panes.opened
  obtain ⟨ao, co, rfl, lo, _⟩ := hp.opts.opened
  obtain ⟨ar, cr, rfl, lr, _⟩ := hp.rules.opened
  clear hp
  obtain ⟨sv, hsv⟩ : ∃ sv, sv = spaceV p := ⟨_, rfl⟩
  obtain ⟨se, hse⟩ : ∃ se, se = spaceE p := ⟨_, rfl⟩
  have hC := Lib.hid (fun y : Later W1 => rSpace y _ _ _ p HP.out)
  rw [← hsv, ← hse] at hC
  clear hsv hse
  have hF : Hid (∀ (b : Bool) (y : Later W1), EndsBool W (.returned (.bool b)) y.w) := Lib.hid (fun b y => ⟨b, rfl, y.down hb1⟩)
  go_upto_region 3 with (go_at_call 31; refine (lshaped x1 _ _ _ p HP.out).mono ?_; rintro e w' ⟨sh, rfl, x1, rfl⟩; rcases Bool.eq_false_or_eq_true sh with hsh | hsh <;> subst hsh)
  rotate_left
  · go_ret
    exact hF.out _ _
  by_cases h1 : se = 0 <;> by_cases h2 : sv ≤ 300 <;> by_cases h3 : p.rules.length ≤ 30 <;> by_cases h4 : 65536 < sv
  all_goals first | (exfalso; omega) | skip
  all_goals
    go_wp2_with (go_at_call 33; refine (hC.out x1).mono ?_; rintro e w' ⟨rfl, x1, rfl⟩)
    go_ret
    exact hF.out _ _

/-- where a bool first stands in a list; -1: nowhere -/
def idxB (l : List Bool) (a : Bool) : Int := if a ∈ l then (l.idxOf a : Nat) else -1
theorem idxB_at {l : List Bool} {a : Bool} {k : Nat} (hk : k < l.length) (h : nth l k = a) (hn : ∀ i, i < k → nth l i ≠ a) : idxB l a = k := by
  have hm : a ∈ l := by rw [← h]; exact nth_mem hk
  unfold idxB
  rw [if_pos hm]
  congr 1
  have hlt := List.idxOf_lt_length_iff.2 hm
  have hg : nth l (l.idxOf a) = a := by rw [nth_eq _ _ hlt]; exact List.getElem_idxOf hlt
  rcases Nat.lt_trichotomy (l.idxOf a) k with h1 | h1 | h1
  · exact absurd hg (hn _ h1)
  · exact h1
  · have h2 := List.not_of_lt_findIdx (show k < List.findIdx (· == a) l from h1)
    rw [nth_eq _ _ hk] at h
    simp [h] at h2
theorem idxB_none {l : List Bool} {a : Bool} (hn : ∀ i, i < l.length → nth l i ≠ a) : idxB l a = -1 := by
  unfold idxB
  rw [if_neg]
  intro hm
  obtain ⟨i, hi, rfl⟩ := List.getElem_of_mem hm
  exact hn i hi (nth_eq l i hi)

set_option maxRecDepth 100000 in
set_option maxHeartbeats 1000000 in
theorem pindexB {W : World} (x : Later W) (v : Value) (l : List Bool) (a : Bool) (h : IsBools W v l) : Calls Try.prog 111 #[v, .bool a] x.w (Ends W (.int .i64 (idxB l a))) := by
  obtain ⟨A, c, rfl, ll, hI⟩ := h.opened
  clear h
  have hat := Lib.hid (fun k => @idxB_at l a k)
  have hno := Lib.hid (@idxB_none l a)
  go_enter Try.func111, Try.ntmps111
  go_wp2
  go_loopw [8] (fun i wr => ∃ k : Nat, k ≤ l.length ∧ i = .int .i64 k ∧ (∃ y : Later W, wr = y.w) ∧ (∀ i, i < k → nth l i ≠ a)) (fun i _ => l.length - (intOf i).toNat)
  case atStart => exact ⟨0, Nat.zero_le _, rfl, ⟨x, rfl⟩, by omega⟩
  case round =>
    obtain ⟨k, hk, rfl, ⟨x, rfl⟩, hz⟩ := hrel
    replace hz := Lib.hid hz
    by_cases hlt : k < l.length
    · obtain ⟨b, o, rfl, hb, c0⟩ := hI.out k hlt
      cases hA : (a == nth l k)
      · go_wp2
        go_roundw
        case rel => exact ⟨k + 1, by omega, by go_num, ⟨x, rfl⟩, all_step hz.out (fun e => by rw [e] at hA; simp at hA)⟩
        case measure => simp [intOf]; omega
      · go_wp2
        go_ret
        exact ⟨ret_int (hat.out k hlt (beq_iff_eq.1 hA).symm hz.out).symm, x, rfl⟩
    · obtain rfl : k = l.length := by omega
      go_wp2
      go_ret
      exact ⟨ret_int (hno.out hz.out).symm, x, rfl⟩

theorem idxB_ge (l : List Bool) (a : Bool) : decide (0 ≤ idxB l a) = l.contains a := by
  unfold idxB
  by_cases h : a ∈ l <;> simp [h]

set_option maxRecDepth 100000 in
set_option maxHeartbeats 1000000 in
theorem phasBl {W : World} (x : Later W) (v : Value) (l : List Bool) (a : Bool) (h : IsBools W v l) : Calls Try.prog 112 #[v, .bool a] x.w (Ends W (.bool (l.contains a))) := by
  have hC := Lib.hid (pindexB x v l a h)
  have hge := Lib.hid (idxB_ge l a)
  obtain ⟨A, c, rfl, _, _⟩ := h
  go_enter Try.func112, Try.ntmps112
  go_wp2_with (go_at_call 111; refine hC.out.mono ?_; rintro e w' ⟨rfl, x, rfl⟩)
  go_ret
  exact ⟨by rw [← hge.out]; rfl, x, rfl⟩
end Go.Proofs.Ytmpkbolabdmkkaa

/- CONTRACT of the laws' light, with what it says. -/
namespace Go.Proofs.Ytmpkbolabdmkkaa
open Go.RowKit

/-- HOW light ENDS: where it says yes, all fillings can be gone through, or the problem errs -/
def EndsLight (W : World) (p : Prob) (e : Ending) (w' : World) : Prop := ∃ b, e = .returned (.bool b) ∧ (b = true → largeE p = 0 → total p ≤ 300) ∧ ∃ y : Later W, w' = y.w
theorem light_says {p : Prob} (h : spaceE p ≠ 0 ∨ (spaceV p ≤ 300 ∨ 65536 < spaceV p)) (hl : largeE p = 0) : total p ≤ 300 := by
  obtain ⟨hv, ht⟩ := largeE_0.1 hl
  have hr := rspace_total hv
  have hE : spaceE p = 0 := by unfold spaceE; rw [if_pos hv, if_neg (by omega)]
  rcases h with h | h
  · exact absurd hE h
  · have : spaceV p = rspace p := by unfold spaceV; rw [if_pos hE]
    rw [this] at h
    omega

set_option maxRecDepth 100000 in
set_option maxHeartbeats 1000000 in
theorem llightF {W : World} (x : Later W) (v0 v1 v2 : Value) (p : Prob) (hp : IsProb W v0 v1 v2 p) : Calls Try.prog 15 #[.agg #[v0, v1, v2]] x.w (EndsLight W p) := by
  go_enter Try.func15, Try.ntmps15
  go_upto_region 1 with (fail)
  obtain ⟨W1, x1, e1, hb1, s1, p0, p1, p2⟩ := enter3 x v0 v1 v2 26
  rw [e1]; clear e1
  have HP := Lib.hid (hp.below hb1)
  obtain ⟨ap, cp, rfl, lp, _⟩ := hp.panes.opened
  obtain ⟨ao, co, rfl, lo, _⟩ := hp.opts.opened
  obtain ⟨ar, cr, rfl, lr, _⟩ := hp.rules.opened
  clear hp
  have hsay := Lib.hid (@light_says p)
  obtain ⟨sv, hsv⟩ : ∃ sv, sv = spaceV p := ⟨_, rfl⟩
  obtain ⟨se, hse⟩ : ∃ se, se = spaceE p := ⟨_, rfl⟩
  have hC := Lib.hid (fun y : Later W1 => rSpace y _ _ _ p HP.out)
  rw [← hsv, ← hse] at hC hsay
  clear hsv hse
  have hF : Hid (∀ (b : Bool) (y : Later W1), (b = true → largeE p = 0 → total p ≤ 300) → EndsLight W p (.returned (.bool b)) y.w) := Lib.hid (fun b y h => ⟨b, rfl, h, y.down hb1⟩)
  go_upto_region 3 with (go_at_call 31; refine (lshaped x1 _ _ _ p HP.out).mono ?_; rintro e w' ⟨sh, rfl, x1, rfl⟩; rcases Bool.eq_false_or_eq_true sh with hsh | hsh <;> subst hsh)
  rotate_left
  · go_ret
    exact hF.out _ _ (fun h => by cases h)
  by_cases h1 : se = 0 <;> by_cases h2 : sv ≤ 300 <;> by_cases h3 : p.rules.length ≤ 30 <;> by_cases h4 : 65536 < sv
  all_goals first | (exfalso; omega) | skip
  all_goals
    go_wp2_with (go_at_call 33; refine (hC.out x1).mono ?_; rintro e w' ⟨rfl, x1, rfl⟩)
    go_ret
    exact hF.out _ _ (fun h => by first | (exact hsay.out (by omega)) | (simp at h; omega) | cases h)
end Go.Proofs.Ytmpkbolabdmkkaa
