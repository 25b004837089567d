/- THE ARGUMENTS OPENED: what reads as a problem, or as a list of numbers, is one. -/
import Derived.Test.YtmpkbolabdmkkaaZa
import Derived.Deep.Slices
import Derived.Lib.SmallJoins
import Derived.ProofKit
import Derived.Carry
import Derived.SizedLaws
namespace Go.Proofs.Ytmpkbolabdmkkaa
open Go.ChangeShapes Go.WideShapes Go.ChangeAt Go.RowKit Go.Deep Go.Joins

section
variable {H : Type} {enc : TypeId × Value → H} {W : World} {sp : Nat → Bool} {held : Bool}

theorem weightsAll_mem {e : TypeId} {d : DataW H} {k : Nat} (hk : k ∈ d.weights Try.prog e) : ∀ {l : List (DataW H)}, d ∈ l → k ∈ DataW.weightsAll Try.prog e l
  | [], h => by cases h
  | a :: l, h => by
    unfold DataW.weightsAll
    rcases List.mem_cons.1 h with rfl | h
    · exact List.mem_append_left _ hk
    · exact List.mem_append_right _ (weightsAll_mem hk h)

/-- a slice that is read: each element's cells, its reading, and what it weighs -/
theorem slice_open {t e : TypeId} {fuel : Nat} {v : Value} {y : DataW H × List MemPlace} (ht : Try.prog.underlying t = some (.slice e)) {c : Nat} (hc : Try.prog.cellsOf e = c) (hc0 : 0 < c) (h : DataW.trod enc Try.prog W 0 sp held fuel t [v] = some y) (hw : ∀ k ∈ y.1.weights Try.prog t, k ≤ reachBytes) :
    ∃ (a : Option Addr) (len cap n : Nat) (D : Nat → DataW H) (Pl : Nat → List MemPlace), v = .slice a len cap ∧ len * Try.prog.bytesOf e ≤ reachBytes ∧ ∀ i, i < len → ∃ b o, a = some ⟨b, o, none⟩ ∧ b < W.heap.size ∧
      ∃ cs : List Value, cs.length = c ∧ (∀ j, j < c → W.cell? ⟨b, o + i * c + j, none⟩ = cs[j]?) ∧ DataW.trod enc Try.prog W 0 sp held n e cs = some (D i, Pl i) ∧ ∀ k ∈ (D i).weights Try.prog e, k ≤ reachBytes := by
  rcases open_slice ht h with ⟨h0, _⟩ | ⟨a, len, cap, m, n, D, Pl, hcs, _, _, _, hm, rfl, hx⟩
  · obtain rfl : v = .slice none 0 0 := by simpa using h0
    exact ⟨none, 0, 0, 0, fun _ => .nil, fun _ => [], rfl, by omega, fun i hi => absurd hi (Nat.not_lt_zero _)⟩
  · obtain rfl : v = .slice (some a) len cap := by simpa using hcs
    simp only [DataW.weights, ht, List.length_map, List.length_range] at hw
    have hle : len ≤ len + (m - len) := Nat.le_add_right _ _
    have h1 := hw _ (List.mem_cons_self ..)
    refine ⟨some a, len, cap, n, D, Pl, rfl, Nat.le_trans (Nat.mul_le_mul_right _ hle) h1, fun i hi => ?_⟩
    have him : i < m := by
      rw [hm]
      rcases hs : sp a.block with _ | _
      · simpa using hi
      · have : len ≤ cap := by
          rcases DataW.trod_slice ht h with ⟨h2, _⟩ | ⟨a', len', cap', _, _, _, _, h2, _, _, h3, _⟩
          · simp at h2
          · simp at h2; omega
        simp; omega
    obtain ⟨cs, hcells, htr⟩ := hx i him
    rw [hc] at hcells
    obtain ⟨_, hlen, hcell⟩ := World.cells?_some hcells
    have hcl : ∀ j, j < c → ∃ u, W.cell? ((a.add (i * c)).add j) = some u := fun j hj => ⟨cs[j]'(by omega), by rw [hcell j hj, List.getElem?_eq_getElem (by omega)]⟩
    have hspot : a.spot = none := by
      have hlen0 : 0 < m := by omega
      obtain ⟨cs0, hcells0, _⟩ := hx 0 hlen0
      rw [hc] at hcells0
      obtain ⟨_, hl0, hc1⟩ := World.cells?_some hcells0
      have h2 := hc1 0 hc0
      rw [List.getElem?_eq_getElem (by omega)] at h2
      have h3 := World.cell?_spot h2
      simpa [Addr.add] using h3
    obtain ⟨b, o, s⟩ := a
    simp only at hspot
    subst hspot
    have hadd : ∀ j, ((⟨b, o, none⟩ : Addr).add (i * c)).add j = ⟨b, o + i * c + j, none⟩ := fun j => by
      unfold Addr.add
      by_cases h1 : i * c = 0
      · by_cases h2 : j = 0
        · simp [h1, h2]
        · simp [h1, h2]
      · by_cases h2 : j = 0
        · simp [h1, h2]
        · simp [h1, h2]
    obtain ⟨u, hu⟩ := hcl 0 hc0
    rw [hadd] at hu
    refine ⟨b, o, rfl, block_lt_of_cell hu, cs, hlen, fun j hj => by rw [← hadd]; exact hcell j hj, htr, fun k hk => hw k ?_⟩
    refine List.mem_cons_of_mem _ (List.mem_append_left _ (weightsAll_mem hk ?_))
    exact List.mem_map.2 ⟨i, List.mem_range.2 hi, rfl⟩

theorem cells1 : Try.prog.cellsOf 3 = 1 ∧ Try.prog.cellsOf 4 = 1 ∧ Try.prog.cellsOf 39 = 1 ∧ Try.prog.cellsOf 52 = 1 ∧ Try.prog.cellsOf 57 = 4 ∧ Try.prog.cellsOf 87 = 7 ∧ Try.prog.cellsOf 22 = 1 ∧ Try.prog.cellsOf 48 = 1 ∧ Try.prog.cellsOf 55 = 2 ∧ Try.prog.cellsOf 85 = 2 ∧ Try.prog.cellsOf 26 = 3 :=
  ⟨by kernel_rfl, by kernel_rfl, by kernel_rfl, by kernel_rfl, by kernel_rfl, by kernel_rfl, by kernel_rfl, by kernel_rfl, by kernel_rfl, by kernel_rfl, by kernel_rfl⟩
theorem bytes1 : Try.prog.bytesOf 3 = 8 ∧ Try.prog.bytesOf 4 = 1 ∧ Try.prog.bytesOf 39 = 24 ∧ Try.prog.bytesOf 52 = 24 ∧ Try.prog.bytesOf 57 = 32 ∧ Try.prog.bytesOf 87 = 104 :=
  ⟨by kernel_rfl, by kernel_rfl, by kernel_rfl, by kernel_rfl, by kernel_rfl, by kernel_rfl⟩

theorem one_of {l : List Value} (h : l.length = 1) : ∃ u, l = [u] := by match l, h with | [u], _ => exact ⟨u, rfl⟩

/-- the list of what a function says of each index -/
def tab {α : Type} (n : Nat) (f : Nat → α) : List α := (List.range n).map f
theorem tab_len {α : Type} (n : Nat) (f : Nat → α) : (tab n f).length = n := by simp [tab]
theorem nth_tab {α : Type} [Inhabited α] {n i : Nat} (f : Nat → α) (h : i < n) : nth (tab n f) i = f i := by rw [nth_eq _ _ (by rw [tab_len]; exact h)]; simp [tab]

theorem ints_of {fuel : Nat} {v : Value} {y : DataW H × List MemPlace} (h : DataW.trod enc Try.prog W 0 sp held fuel 22 [v] = some y) (hw : ∀ k ∈ y.1.weights Try.prog 22, k ≤ reachBytes) : ∃ l, IsInts W v l := by
  obtain ⟨a, len, cap, n, D, Pl, rfl, hsz, hx⟩ := slice_open Try.underlying22 cells1.1 (by decide) h hw
  have hex : ∀ i, ∃ z : Int, i < len → ∃ b o, a = some ⟨b, o, none⟩ ∧ b < W.heap.size ∧ W.cell? ⟨b, o + i, none⟩ = some (.int .i64 z) := fun i => by
    by_cases hi : i < len
    · obtain ⟨b, o, ha, hb, cs, hl, hc, htr, _⟩ := hx i hi
      obtain ⟨u, rfl⟩ := one_of hl
      obtain ⟨z, hz, _⟩ := DataW.trod_int Try.underlying3 htr
      obtain rfl : u = .int .i64 z := by simpa using hz
      exact ⟨z, fun _ => ⟨b, o, ha, hb, by have := hc 0 (by decide); simpa using this⟩⟩
    · exact ⟨0, fun h => absurd h hi⟩
  rw [bytes1.1] at hsz
  refine ⟨tab len fun i => Classical.choose (hex i), a, cap, by rw [tab_len], by rw [tab_len]; unfold reachBytes at hsz; omega, fun i hi => ?_⟩
  rw [tab_len] at hi
  rw [nth_tab _ hi]
  exact Classical.choose_spec (hex i) hi
theorem bools_of {fuel : Nat} {v : Value} {y : DataW H × List MemPlace} (h : DataW.trod enc Try.prog W 0 sp held fuel 52 [v] = some y) (hw : ∀ k ∈ y.1.weights Try.prog 52, k ≤ reachBytes) : ∃ l, IsBools W v l := by
  obtain ⟨a, len, cap, n, D, Pl, rfl, hsz, hx⟩ := slice_open Try.underlying52 cells1.2.1 (by decide) h hw
  have hex : ∀ i, ∃ z : Bool, i < len → ∃ b o, a = some ⟨b, o, none⟩ ∧ b < W.heap.size ∧ W.cell? ⟨b, o + i, none⟩ = some (.bool z) := fun i => by
    by_cases hi : i < len
    · obtain ⟨b, o, ha, hb, cs, hl, hc, htr, _⟩ := hx i hi
      obtain ⟨u, rfl⟩ := one_of hl
      obtain ⟨z, hz, _⟩ := DataW.trod_bool Try.underlying4 htr
      obtain rfl : u = .bool z := by simpa using hz
      exact ⟨z, fun _ => ⟨b, o, ha, hb, by have := hc 0 (by decide); simpa using this⟩⟩
    · exact ⟨false, fun h => absurd h hi⟩
  rw [bytes1.2.1] at hsz
  refine ⟨tab len fun i => Classical.choose (hex i), a, cap, by rw [tab_len], by rw [tab_len]; unfold reachBytes at hsz; omega, fun i hi => ?_⟩
  rw [tab_len] at hi
  rw [nth_tab _ hi]
  exact Classical.choose_spec (hex i) hi
theorem boolss_of {fuel : Nat} {v : Value} {y : DataW H × List MemPlace} (h : DataW.trod enc Try.prog W 0 sp held fuel 48 [v] = some y) (hw : ∀ k ∈ y.1.weights Try.prog 48, k ≤ reachBytes) : ∃ l, IsBoolss W v l := by
  obtain ⟨a, len, cap, n, D, Pl, rfl, hsz, hx⟩ := slice_open Try.underlying48 cells1.2.2.2.1 (by decide) h hw
  have hex : ∀ i, ∃ z : List Bool, i < len → ∃ b o, a = some ⟨b, o, none⟩ ∧ b < W.heap.size ∧ ∃ u, W.cell? ⟨b, o + i, none⟩ = some u ∧ IsBools W u z := fun i => by
    by_cases hi : i < len
    · obtain ⟨b, o, ha, hb, cs, hl, hc, htr, hk⟩ := hx i hi
      obtain ⟨u, rfl⟩ := one_of hl
      obtain ⟨z, hz⟩ := bools_of htr hk
      exact ⟨z, fun _ => ⟨b, o, ha, hb, u, by have := hc 0 (by decide); simpa using this, hz⟩⟩
    · exact ⟨[], fun h => absurd h hi⟩
  rw [bytes1.2.2.2.1] at hsz
  refine ⟨tab len fun i => Classical.choose (hex i), a, cap, by rw [tab_len], by rw [tab_len]; unfold reachBytes at hsz; omega, fun i hi => ?_⟩
  rw [tab_len] at hi
  rw [nth_tab _ hi]
  exact Classical.choose_spec (hex i) hi
theorem four_of {l : List Value} (h : l.length = 4) : ∃ a b c d, l = [a, b, c, d] := by match l, h with | [a, b, c, d], _ => exact ⟨a, b, c, d, rfl⟩
theorem two_of {l : List Value} (h : l.length = 2) : ∃ a b, l = [a, b] := by match l, h with | [a, b], _ => exact ⟨a, b, rfl⟩
theorem seven_of {l : List Value} (h : l.length = 7) : ∃ a b c d e f g, l = [a, b, c, d, e, f, g] := by match l, h with | [a, b, c, d, e, f, g], _ => exact ⟨a, b, c, d, e, f, g, rfl⟩
theorem weightsEach_mem {ts : List TypeId} {ds : List (DataW H)} {j : Nat} {t : TypeId} {d : DataW H} (ht : ts[j]? = some t) (hd : ds[j]? = some d) (hw : ∀ k ∈ DataW.weightsEach Try.prog ts ds, k ≤ reachBytes) : ∀ k ∈ d.weights Try.prog t, k ≤ reachBytes :=
  fun k hk => hw k (DataW.weights_mem_each ht hd k hk)

theorem opts_of {fuel : Nat} {v : Value} {y : DataW H × List MemPlace} (h : DataW.trod enc Try.prog W 0 sp held fuel 39 [v] = some y) (hw : ∀ k ∈ y.1.weights Try.prog 39, k ≤ reachBytes) : ∃ l, IsOpts W v l := by
  obtain ⟨a, len, cap, n, D, Pl, rfl, hsz, hx⟩ := slice_open Try.underlying39 cells1.2.2.2.2.1 (by decide) h hw
  have hex : ∀ i, ∃ z : Opt, i < len → ∃ b o, a = some ⟨b, o, none⟩ ∧ b < W.heap.size ∧ OptAt W b (o + i * 4) z := fun i => by
    by_cases hi : i < len
    · obtain ⟨b, o, ha, hb, cs, hl, hc, htr, _⟩ := hx i hi
      obtain ⟨c0, c1, c2, c3, rfl⟩ := four_of hl
      obtain ⟨y0, y1, y2, n1, _, _, h0, h1, h2⟩ := trod_struct3 Try.underlying57 htr
      have h0' : DataW.trod enc Try.prog W 0 sp held n1 3 (([c0, c1, c2, c3].drop 0).take (Try.prog.cellsOf 3)) = some y0 := h0
      have h1' : DataW.trod enc Try.prog W 0 sp held n1 55 (([c0, c1, c2, c3].drop 1).take (Try.prog.cellsOf 55)) = some y1 := h1
      have h2' : DataW.trod enc Try.prog W 0 sp held n1 3 (([c0, c1, c2, c3].drop 3).take (Try.prog.cellsOf 3)) = some y2 := h2
      clear h0 h1 h2
      rw [cells1.1] at h0' h2'
      rw [cells1.2.2.2.2.2.2.2.2.1] at h1'
      obtain ⟨z0, e0, _⟩ := DataW.trod_int Try.underlying3 h0'
      obtain ⟨z2, e2, _⟩ := DataW.trod_int Try.underlying3 h2'
      obtain ⟨w0, w1, n2, _, _, h3, h4⟩ := trod_struct2 Try.underlying55 h1'
      have h3' : DataW.trod enc Try.prog W 0 sp held n2 3 (((([c0, c1, c2, c3].drop 1).take 2).drop 0).take (Try.prog.cellsOf 3)) = some w0 := h3
      have h4' : DataW.trod enc Try.prog W 0 sp held n2 4 (((([c0, c1, c2, c3].drop 1).take 2).drop 1).take (Try.prog.cellsOf 4)) = some w1 := h4
      clear h3 h4
      rw [cells1.1] at h3'
      rw [cells1.2.1] at h4'
      obtain ⟨z3, e3, _⟩ := DataW.trod_int Try.underlying3 h3'
      obtain ⟨z4, e4, _⟩ := DataW.trod_bool Try.underlying4 h4'
      obtain rfl : c0 = .int .i64 z0 := by simpa using e0
      obtain rfl : c3 = .int .i64 z2 := by simpa using e2
      obtain rfl : c1 = .int .i64 z3 := by simpa using e3
      obtain rfl : c2 = .bool z4 := by simpa using e4
      exact ⟨⟨z0, z3, z4, z2⟩, fun _ => ⟨b, o, ha, hb, hc 0 (by decide), hc 1 (by decide), hc 2 (by decide), hc 3 (by decide)⟩⟩
    · exact ⟨default, fun h => absurd h hi⟩
  rw [bytes1.2.2.2.2.1] at hsz
  refine ⟨tab len fun i => Classical.choose (hex i), a, cap, by rw [tab_len], by rw [tab_len]; unfold reachBytes at hsz; omega, fun i hi => ?_⟩
  rw [tab_len] at hi
  rw [nth_tab _ hi]
  exact Classical.choose_spec (hex i) hi
theorem optss_of {fuel : Nat} {v : Value} {y : DataW H × List MemPlace} (h : DataW.trod enc Try.prog W 0 sp held fuel 23 [v] = some y) (hw : ∀ k ∈ y.1.weights Try.prog 23, k ≤ reachBytes) : ∃ l, IsOptss W v l := by
  obtain ⟨a, len, cap, n, D, Pl, rfl, hsz, hx⟩ := slice_open Try.underlying23 cells1.2.2.1 (by decide) h hw
  have hex : ∀ i, ∃ z : List Opt, i < len → ∃ b o, a = some ⟨b, o, none⟩ ∧ b < W.heap.size ∧ ∃ u, W.cell? ⟨b, o + i, none⟩ = some u ∧ IsOpts W u z := fun i => by
    by_cases hi : i < len
    · obtain ⟨b, o, ha, hb, cs, hl, hc, htr, hk⟩ := hx i hi
      obtain ⟨u, rfl⟩ := one_of hl
      obtain ⟨z, hz⟩ := opts_of htr hk
      exact ⟨z, fun _ => ⟨b, o, ha, hb, u, by have := hc 0 (by decide); simpa using this, hz⟩⟩
    · exact ⟨[], fun h => absurd h hi⟩
  rw [bytes1.2.2.1] at hsz
  refine ⟨tab len fun i => Classical.choose (hex i), a, cap, by rw [tab_len], by rw [tab_len]; unfold reachBytes at hsz; omega, fun i hi => ?_⟩
  rw [tab_len] at hi
  rw [nth_tab _ hi]
  exact Classical.choose_spec (hex i) hi

theorem trod_struct6 {t : TypeId} {f0 f1 f2 f3 f4 f5 : Field} {fuel : Nat} {cs : List Value} {x : DataW H × List MemPlace} (ht : Try.prog.underlying t = some (.struct #[f0, f1, f2, f3, f4, f5])) (h : DataW.trod enc Try.prog W 0 sp held fuel t cs = some x) :
    ∃ y0 y1 y2 y3 y4 y5 n, x.1 = .agg [y0.1, y1.1, y2.1, y3.1, y4.1, y5.1] ∧ DataW.trod enc Try.prog W 0 sp held n f0.type ((cs.drop f0.offset).take (Try.prog.cellsOf f0.type)) = some y0 ∧
      DataW.trod enc Try.prog W 0 sp held n f1.type ((cs.drop f1.offset).take (Try.prog.cellsOf f1.type)) = some y1 ∧ DataW.trod enc Try.prog W 0 sp held n f2.type ((cs.drop f2.offset).take (Try.prog.cellsOf f2.type)) = some y2 ∧
      DataW.trod enc Try.prog W 0 sp held n f3.type ((cs.drop f3.offset).take (Try.prog.cellsOf f3.type)) = some y3 ∧ DataW.trod enc Try.prog W 0 sp held n f4.type ((cs.drop f4.offset).take (Try.prog.cellsOf f4.type)) = some y4 ∧
      DataW.trod enc Try.prog W 0 sp held n f5.type ((cs.drop f5.offset).take (Try.prog.cellsOf f5.type)) = some y5 := by
  obtain ⟨xs, n, _, rfl, hl, hlen, hf⟩ := DataW.trod_struct ht h
  match xs, hlen with
  | [y0, y1, y2, y3, y4, y5], _ => exact ⟨y0, y1, y2, y3, y4, y5, n, by simp, by simpa using hf 0 f0 rfl, by simpa using hf 1 f1 rfl, by simpa using hf 2 f2 rfl, by simpa using hf 3 f3 rfl, by simpa using hf 4 f4 rfl, by simpa using hf 5 f5 rfl⟩

theorem rules_of {fuel : Nat} {v : Value} {y : DataW H × List MemPlace} (h : DataW.trod enc Try.prog W 0 sp held fuel 24 [v] = some y) (hw : ∀ k ∈ y.1.weights Try.prog 24, k ≤ reachBytes) : ∃ l, IsRules W v l := by
  obtain ⟨a, len, cap, n, D, Pl, rfl, hsz, hx⟩ := slice_open Try.underlying24 cells1.2.2.2.2.2.1 (by decide) h hw
  have hex : ∀ i, ∃ z : Rl, i < len → ∃ b o, a = some ⟨b, o, none⟩ ∧ b < W.heap.size ∧ RlAt W b (o + i * 7) z := fun i => by
    by_cases hi : i < len
    · obtain ⟨b, o, ha, hb, cs, hl, hc, htr, hk⟩ := hx i hi
      obtain ⟨c0, c1, c2, c3, c4, c5, c6, rfl⟩ := seven_of hl
      obtain ⟨y0, y1, y2, y3, y4, y5, n1, hy, h0, h1, h2, h3, h4, h5⟩ := trod_struct6 Try.underlying87 htr
      have hk' : ∀ k ∈ DataW.weightsEach Try.prog [3, 3, 22, 48, 85, 48] [y0.1, y1.1, y2.1, y3.1, y4.1, y5.1], k ≤ reachBytes := by
        have hy' : D i = .agg [y0.1, y1.1, y2.1, y3.1, y4.1, y5.1] := hy
        rw [hy'] at hk
        simp only [DataW.weights, Try.underlying87] at hk
        exact hk
      have h0' : DataW.trod enc Try.prog W 0 sp held n1 3 (([c0, c1, c2, c3, c4, c5, c6].drop 0).take (Try.prog.cellsOf 3)) = some y0 := h0
      have h1' : DataW.trod enc Try.prog W 0 sp held n1 3 (([c0, c1, c2, c3, c4, c5, c6].drop 1).take (Try.prog.cellsOf 3)) = some y1 := h1
      have h2' : DataW.trod enc Try.prog W 0 sp held n1 22 (([c0, c1, c2, c3, c4, c5, c6].drop 2).take (Try.prog.cellsOf 22)) = some y2 := h2
      have h3' : DataW.trod enc Try.prog W 0 sp held n1 48 (([c0, c1, c2, c3, c4, c5, c6].drop 3).take (Try.prog.cellsOf 48)) = some y3 := h3
      have h4' : DataW.trod enc Try.prog W 0 sp held n1 85 (([c0, c1, c2, c3, c4, c5, c6].drop 4).take (Try.prog.cellsOf 85)) = some y4 := h4
      have h5' : DataW.trod enc Try.prog W 0 sp held n1 48 (([c0, c1, c2, c3, c4, c5, c6].drop 6).take (Try.prog.cellsOf 48)) = some y5 := h5
      clear h0 h1 h2 h3 h4 h5
      rw [cells1.1] at h0' h1'
      rw [cells1.2.2.2.2.2.2.1] at h2'
      rw [cells1.2.2.2.2.2.2.2.1] at h3' h5'
      rw [cells1.2.2.2.2.2.2.2.2.2.1] at h4'
      obtain ⟨z0, e0, _⟩ := DataW.trod_int Try.underlying3 h0'
      obtain ⟨z1, e1, _⟩ := DataW.trod_int Try.underlying3 h1'
      obtain ⟨w0, w1, n2, _, _, h6, h7⟩ := trod_struct2 Try.underlying85 h4'
      have h6' : DataW.trod enc Try.prog W 0 sp held n2 3 (((([c0, c1, c2, c3, c4, c5, c6].drop 4).take 2).drop 0).take (Try.prog.cellsOf 3)) = some w0 := h6
      have h7' : DataW.trod enc Try.prog W 0 sp held n2 3 (((([c0, c1, c2, c3, c4, c5, c6].drop 4).take 2).drop 1).take (Try.prog.cellsOf 3)) = some w1 := h7
      clear h6 h7
      rw [cells1.1] at h6' h7'
      obtain ⟨z4, e4, _⟩ := DataW.trod_int Try.underlying3 h6'
      obtain ⟨z5, e5, _⟩ := DataW.trod_int Try.underlying3 h7'
      obtain ⟨lp, hlp⟩ := ints_of (v := c2) h2' (weightsEach_mem (j := 2) rfl rfl hk')
      obtain ⟨lh, hlh⟩ := boolss_of (v := c3) h3' (weightsEach_mem (j := 3) rfl rfl hk')
      obtain ⟨lk, hlk⟩ := boolss_of (v := c6) h5' (weightsEach_mem (j := 5) rfl rfl hk')
      obtain rfl : c0 = .int .i64 z0 := by simpa using e0
      obtain rfl : c1 = .int .i64 z1 := by simpa using e1
      obtain rfl : c4 = .int .i64 z4 := by simpa using e4
      obtain rfl : c5 = .int .i64 z5 := by simpa using e5
      exact ⟨⟨z0, z1, lp, lh, z4, z5, lk⟩, fun _ => ⟨b, o, ha, hb, c2, c3, c6, hc 0 (by decide), hc 1 (by decide), hc 2 (by decide), hc 3 (by decide), hc 4 (by decide), hc 5 (by decide), hc 6 (by decide), hlp, hlh, hlk⟩⟩
    · exact ⟨default, fun h => absurd h hi⟩
  rw [bytes1.2.2.2.2.2] at hsz
  refine ⟨tab len fun i => Classical.choose (hex i), a, cap, by rw [tab_len], by rw [tab_len]; unfold reachBytes at hsz; omega, fun i hi => ?_⟩
  rw [tab_len] at hi
  rw [nth_tab _ hi]
  exact Classical.choose_spec (hex i) hi

set_option maxRecDepth 10000 in
/-- a parameter of type []int -/
theorem open_ints {v : Value} {d : DataW H} {ps : List MemPlace} {r : Reach} {b0 : Nat} (hv : Value.okWide Try.prog W r b0 22 v) (h : DataW.Trod enc Try.prog W 0 sp held 22 v d ps) (hw : ∀ k ∈ d.weights Try.prog 22, k ≤ reachBytes) : ∃ l, IsInts W v l := by
  obtain ⟨fuel, hf⟩ := h
  obtain ⟨a, l, c, rfl⟩ := okWide_slice Try.underlying22 hv
  have hf' : DataW.trod enc Try.prog W 0 sp held fuel 22 [.slice a l c] = some (d, ps) := by simpa [Value.cells] using hf
  exact ints_of hf' hw
set_option maxRecDepth 10000 in
/-- a parameter that is a problem -/
theorem open_prob {v : Value} {d : DataW H} {ps : List MemPlace} {r : Reach} {b0 : Nat} (hv : Value.okWide Try.prog W r b0 26 v) (h : DataW.Trod enc Try.prog W 0 sp held 26 v d ps) (hw : ∀ k ∈ d.weights Try.prog 26, k ≤ reachBytes) : ∃ v0 v1 v2 p, v = .agg #[v0, v1, v2] ∧ IsProb W v0 v1 v2 p := by
  obtain ⟨v0, v1, v2, y0, y1, y2, n, rfl, rfl, _, h0, h1, h2⟩ := open_agg3 Try.underlying26 (by kernel_rfl) cells1.2.2.2.2.2.2.2.2.2.2 hv h
  have hk' : ∀ k ∈ DataW.weightsEach Try.prog [22, 23, 24] [y0.1, y1.1, y2.1], k ≤ reachBytes := by
    simp only [DataW.weights, Try.underlying26] at hw
    exact hw
  obtain ⟨lp, hlp⟩ := ints_of (v := v0) h0 (weightsEach_mem (j := 0) rfl rfl hk')
  obtain ⟨lo, hlo⟩ := optss_of (v := v1) h1 (weightsEach_mem (j := 1) rfl rfl hk')
  obtain ⟨lr, hlr⟩ := rules_of (v := v2) h2 (weightsEach_mem (j := 2) rfl rfl hk')
  exact ⟨v0, v1, v2, ⟨lp, lo, lr⟩, rfl, hlp, hlo, hlr⟩
end
end Go.Proofs.Ytmpkbolabdmkkaa
