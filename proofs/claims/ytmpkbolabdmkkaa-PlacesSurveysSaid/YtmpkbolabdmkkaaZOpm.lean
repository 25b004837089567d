/- THE ARGUMENTS OPENED, with their capacities: what reads as a problem keeps len <= cap; what reads as a node is a tree. -/
import Derived.Test.YtmpkbolabdmkkaaZOpn
import Derived.Test.YtmpkbolabdmkkaaZSuD
namespace Go.Proofs.Ytmpkbolabdmkkaa
open Go.ChangeShapes Go.WideShapes Go.ChangeAt Go.RowKit Go.Deep Go.Joins

section
variable {H : Type} {enc : TypeId × Value → H} {W : World} {sp : Nat → Bool} {held : Bool}

/-- a slice that is read: each element's cells, its reading, and what it weighs; its length is within its capacity -/
theorem slice_open2 {t e : TypeId} {fuel : Nat} {v : Value} {y : DataW H × List MemPlace} (ht : Try.prog.underlying t = some (.slice e)) {c : Nat} (hc : Try.prog.cellsOf e = c) (hc0 : 0 < c) (h : DataW.trod enc Try.prog W 0 sp held fuel t [v] = some y) (hw : ∀ k ∈ y.1.weights Try.prog t, k ≤ reachBytes) :
    ∃ (a : Option Addr) (len cap n : Nat) (D : Nat → DataW H) (Pl : Nat → List MemPlace), v = .slice a len cap ∧ len ≤ cap ∧ n < fuel ∧ len * Try.prog.bytesOf e ≤ reachBytes ∧ ∀ i, i < len → ∃ b o, a = some ⟨b, o, none⟩ ∧ b < W.heap.size ∧
      ∃ cs : List Value, cs.length = c ∧ (∀ j, j < c → W.cell? ⟨b, o + i * c + j, none⟩ = cs[j]?) ∧ DataW.trod enc Try.prog W 0 sp held n e cs = some (D i, Pl i) ∧ ∀ k ∈ (D i).weights Try.prog e, k ≤ reachBytes := by
  have hfu : 0 < fuel := by
    cases fuel with
    | zero => simp [DataW.trod] at h
    | succ n => omega
  rcases DataW.trod_slice ht h with ⟨h0, _⟩ | ⟨a, len, cap, el, rest, n, hf, hcs, rfl, _, hlc, _, hlen, hel, _, _⟩
  · obtain rfl : v = .slice none 0 0 := by simpa using h0
    exact ⟨none, 0, 0, 0, fun _ => .nil, fun _ => [], rfl, Nat.le_refl _, hfu, by omega, fun i hi => absurd hi (Nat.not_lt_zero _)⟩
  · obtain rfl : v = .slice (some a) len cap := by simpa using hcs
    simp only [DataW.weights, ht, List.length_map] at hw
    have h1 := hw _ (List.mem_cons_self ..)
    have h2 : len * Try.prog.bytesOf e ≤ (el.length + rest.length) * Try.prog.bytesOf e := Nat.mul_le_mul_right _ (by omega)
    refine ⟨some a, len, cap, n, fun i => (el.getD i (.nil, [])).1, fun i => (el.getD i (.nil, [])).2, rfl, hlc, by omega, Nat.le_trans h2 h1, fun i hi => ?_⟩
    have hie : i < el.length := by omega
    have hx := hel i hi
    rw [List.getElem?_eq_getElem hie, Option.bind_eq_some_iff] at hx
    obtain ⟨cs, hcells, htr⟩ := hx
    rw [hc] at hcells
    obtain ⟨_, hl, hcell⟩ := World.cells?_some hcells
    have hspot : a.spot = none := by
      have hy := hel 0 (by omega)
      rw [List.getElem?_eq_getElem (by omega : 0 < el.length), Option.bind_eq_some_iff] at hy
      obtain ⟨cs0, hcells0, _⟩ := hy
      rw [hc] at hcells0
      obtain ⟨_, hl0, hcell0⟩ := World.cells?_some hcells0
      have h2 := hcell0 0 hc0
      rw [List.getElem?_eq_getElem (by omega)] at h2
      have h3 := World.cell?_spot h2
      simpa [Addr.add] using h3
    obtain ⟨b, o, s⟩ := a
    simp only at hspot
    subst hspot
    have hadd : ∀ j, ((⟨b, o, none⟩ : Addr).add (i * c)).add j = ⟨b, o + i * c + j, none⟩ := fun j => by
      unfold Addr.add
      by_cases h1 : i * c = 0
      · by_cases h2 : j = 0
        · simp [h1, h2]
        · simp [h1, h2]
      · by_cases h2 : j = 0
        · simp [h1, h2]
        · simp [h1, h2]
    have hu := hcell 0 hc0
    rw [hadd, List.getElem?_eq_getElem (by omega)] at hu
    refine ⟨b, o, rfl, block_lt_of_cell hu, cs, hl, fun j hj => by rw [← hadd]; exact hcell j hj, ?_, fun k hk => hw k ?_⟩
    · rw [htr]; simp [List.getD_eq_getElem?_getD, List.getElem?_eq_getElem hie]
    · refine List.mem_cons_of_mem _ (List.mem_append_left _ (weightsAll_mem hk ?_))
      refine List.mem_map.2 ⟨el[i], List.getElem_mem hie, ?_⟩
      simp [List.getD_eq_getElem?_getD, List.getElem?_eq_getElem hie]

theorem cells64 : Try.prog.cellsOf 64 = 3 ∧ Try.prog.bytesOf 64 = 40 ∧ Try.prog.cellsOf 62 = 1 := ⟨by kernel_rfl, by kernel_rfl, by kernel_rfl⟩
theorem three_of {l : List Value} (h : l.length = 3) : ∃ a b c, l = [a, b, c] := by match l, h with | [a, b, c], _ => exact ⟨a, b, c, rfl⟩
theorem trod_struct3n {t : TypeId} {f0 f1 f2 : Field} {fuel : Nat} {cs : List Value} {x : DataW H × List MemPlace} (ht : Try.prog.underlying t = some (.struct #[f0, f1, f2])) (h : DataW.trod enc Try.prog W 0 sp held fuel t cs = some x) :
    ∃ y0 y1 y2 n, n < fuel ∧ x.1 = .agg [y0.1, y1.1, y2.1] ∧ DataW.trod enc Try.prog W 0 sp held n f0.type ((cs.drop f0.offset).take (Try.prog.cellsOf f0.type)) = some y0 ∧
      DataW.trod enc Try.prog W 0 sp held n f1.type ((cs.drop f1.offset).take (Try.prog.cellsOf f1.type)) = some y1 ∧ DataW.trod enc Try.prog W 0 sp held n f2.type ((cs.drop f2.offset).take (Try.prog.cellsOf f2.type)) = some y2 := by
  obtain ⟨xs, n, hn, rfl, hl, hlen, hf⟩ := DataW.trod_struct ht h
  match xs, hlen with
  | [y0, y1, y2], _ => exact ⟨y0, y1, y2, n, by omega, by simp, by simpa using hf 0 f0 rfl, by simpa using hf 1 f1 rfl, by simpa using hf 2 f2 rfl⟩

/-- WHAT READS AS A LIST OF NODES is a list of trees -/
theorem kids_of (fuel : Nat) {v : Value} {y : DataW H × List MemPlace} (h : DataW.trod enc Try.prog W 0 sp held fuel 62 [v] = some y) (hw : ∀ k ∈ y.1.weights Try.prog 62, k ≤ reachBytes) : ∃ ks : List Nd, ∀ k i, IsNd W v (.mk k i ks) := by
  obtain ⟨a, len, cap, n, D, Pl, rfl, _, hn, hsz, hx⟩ := slice_open2 Try.underlying62 cells64.1 (by decide) h hw
  have hex : ∀ i, ∃ z : Nd, i < len → ∃ b o u, a = some ⟨b, o, none⟩ ∧ b < W.heap.size ∧ W.cell? ⟨b, o + i * 3, none⟩ = some (.int .i64 z.kind) ∧ W.cell? ⟨b, o + i * 3 + 1, none⟩ = some (.int .i64 z.index) ∧ W.cell? ⟨b, o + i * 3 + 2, none⟩ = some u ∧ IsNd W u z := fun i => by
    by_cases hi : i < len
    · obtain ⟨b, o, ha, hb, cs, hl, hc, htr, hk⟩ := hx i hi
      obtain ⟨c0, c1, c2, rfl⟩ := three_of hl
      obtain ⟨y0, y1, y2, n1, hn1, hy, g0, g1, g2⟩ := trod_struct3n Try.underlying64 htr
      have h0 : DataW.trod enc Try.prog W 0 sp held n1 3 (([c0, c1, c2].drop 0).take (Try.prog.cellsOf 3)) = some y0 := g0
      have h1 : DataW.trod enc Try.prog W 0 sp held n1 3 (([c0, c1, c2].drop 1).take (Try.prog.cellsOf 3)) = some y1 := g1
      have h2 : DataW.trod enc Try.prog W 0 sp held n1 62 (([c0, c1, c2].drop 2).take (Try.prog.cellsOf 62)) = some y2 := g2
      clear g0 g1 g2
      have hy' : D i = .agg [y0.1, y1.1, y2.1] := hy
      have hk' : ∀ k ∈ DataW.weightsEach Try.prog [3, 3, 62] [y0.1, y1.1, y2.1], k ≤ reachBytes := by
        rw [hy'] at hk
        simp only [DataW.weights, Try.underlying64] at hk
        exact hk
      rw [cells1.1] at h0 h1
      rw [cells64.2.2] at h2
      obtain ⟨z0, e0, _⟩ := DataW.trod_int Try.underlying3 h0
      obtain ⟨z1, e1, _⟩ := DataW.trod_int Try.underlying3 h1
      obtain rfl : c0 = .int .i64 z0 := by simpa using e0
      obtain rfl : c1 = .int .i64 z1 := by simpa using e1
      obtain ⟨ks, hks⟩ := kids_of n1 (v := c2) h2 (weightsEach_mem (j := 2) rfl rfl hk')
      exact ⟨.mk z0 z1 ks, fun _ => ⟨b, o, c2, ha, hb, hc 0 (by decide), hc 1 (by decide), hc 2 (by decide), hks z0 z1⟩⟩
    · exact ⟨default, fun h => absurd h hi⟩
  rw [cells64.2.1] at hsz
  refine ⟨tab len fun i => Classical.choose (hex i), fun k i => (isNd_iff _).2 ⟨a, cap, by simp only [Nd.kids, tab_len], by simp only [Nd.kids, tab_len]; unfold reachBytes at hsz; omega, fun i hi => ?_⟩⟩
  simp only [Nd.kids, tab_len] at hi
  simp only [Nd.kids]
  rw [nth_tab _ hi]
  exact Classical.choose_spec (hex i) hi
termination_by fuel
decreasing_by omega

set_option maxRecDepth 10000 in
/-- a parameter that is a node -/
theorem open_node {v : Value} {d : DataW H} {ps : List MemPlace} {r : Reach} {b0 : Nat} (hv : Value.okWide Try.prog W r b0 64 v) (h : DataW.Trod enc Try.prog W 0 sp held 64 v d ps) (hw : ∀ k ∈ d.weights Try.prog 64, k ≤ reachBytes) : ∃ (n : Nd) (k : Value), v = .agg #[.int .i64 n.kind, .int .i64 n.index, k] ∧ IsNd W k n := by
  obtain ⟨v0, v1, v2, y0, y1, y2, n, rfl, rfl, _, h0, h1, h2⟩ := open_agg3 Try.underlying64 (by kernel_rfl) cells64.1 hv h
  have hk' : ∀ k ∈ DataW.weightsEach Try.prog [3, 3, 62] [y0.1, y1.1, y2.1], k ≤ reachBytes := by
    simp only [DataW.weights, Try.underlying64] at hw
    exact hw
  obtain ⟨z0, e0, _⟩ := DataW.trod_int Try.underlying3 h0
  obtain ⟨z1, e1, _⟩ := DataW.trod_int Try.underlying3 h1
  obtain rfl : v0 = .int .i64 z0 := by simpa using e0
  obtain rfl : v1 = .int .i64 z1 := by simpa using e1
  obtain ⟨ks, hks⟩ := kids_of n (v := v2) h2 (weightsEach_mem (j := 2) rfl rfl hk')
  exact ⟨.mk z0 z1 ks, v2, rfl, hks z0 z1⟩

theorem cap_of {t e : TypeId} {fuel : Nat} {v : Value} {y : DataW H × List MemPlace} (ht : Try.prog.underlying t = some (.slice e)) (h : DataW.trod enc Try.prog W 0 sp held fuel t [v] = some y) : SlCap v := by
  intro a n c hv
  rcases DataW.trod_slice ht h with ⟨h0, _⟩ | ⟨a', len, cap, el, rest, n', hf, hcs, _, _, hlc, _, _, _, _, _⟩
  · obtain rfl : v = .slice none 0 0 := by simpa using h0
    cases hv; omega
  · obtain rfl : v = .slice (some a') len cap := by simpa using hcs
    cases hv; exact hlc
theorem tabcap_of {fuel : Nat} {v : Value} {y : DataW H × List MemPlace} (h : DataW.trod enc Try.prog W 0 sp held fuel 48 [v] = some y) (hw : ∀ k ∈ y.1.weights Try.prog 48, k ≤ reachBytes) : TabCap W v := by
  refine ⟨cap_of Try.underlying48 h, fun b o n c i u hv hi hu => ?_⟩
  obtain ⟨a, len, cap, n', D, Pl, rfl, _, _, hsz, hx⟩ := slice_open2 Try.underlying48 cells1.2.2.2.1 (by decide) h hw
  cases hv
  obtain ⟨b', o', ha, hb, cs, hl, hc, htr, _⟩ := hx i hi
  cases ha
  obtain ⟨u', rfl⟩ := one_of hl
  have h0 := hc 0 (by decide)
  rw [Nat.mul_one, Nat.add_zero, hu] at h0
  obtain rfl : u = u' := by simpa using h0
  exact cap_of Try.underlying52 htr
theorem probcap_of {fuel : Nat} {v : Value} {y : DataW H × List MemPlace} (h : DataW.trod enc Try.prog W 0 sp held fuel 24 [v] = some y) (hw : ∀ k ∈ y.1.weights Try.prog 24, k ≤ reachBytes) : ProbCap W v := by
  intro b o n c k u3 u6 hv hk h3 h6
  obtain ⟨a, len, cap, n', D, Pl, rfl, _, _, hsz, hx⟩ := slice_open2 Try.underlying24 cells1.2.2.2.2.2.1 (by decide) h hw
  cases hv
  obtain ⟨b', o', ha, hb, cs, hl, hc, htr, hkk⟩ := hx k hk
  cases ha
  obtain ⟨c0, c1, c2, c3, c4, c5, c6, rfl⟩ := seven_of hl
  obtain ⟨y0, y1, y2, y3, y4, y5, n1, hy, _, _, _, g3, _, g5⟩ := trod_struct6 Try.underlying87 htr
  have hk' : ∀ k ∈ DataW.weightsEach Try.prog [3, 3, 22, 48, 85, 48] [y0.1, y1.1, y2.1, y3.1, y4.1, y5.1], k ≤ reachBytes := by
    have hy' : D k = .agg [y0.1, y1.1, y2.1, y3.1, y4.1, y5.1] := hy
    rw [hy'] at hkk
    simp only [DataW.weights, Try.underlying87] at hkk
    exact hkk
  have g3' : DataW.trod enc Try.prog W 0 sp held n1 48 (([c0, c1, c2, c3, c4, c5, c6].drop 3).take (Try.prog.cellsOf 48)) = some y3 := g3
  have g5' : DataW.trod enc Try.prog W 0 sp held n1 48 (([c0, c1, c2, c3, c4, c5, c6].drop 6).take (Try.prog.cellsOf 48)) = some y5 := g5
  rw [cells1.2.2.2.2.2.2.2.1] at g3' g5'
  have e3 := hc 3 (by decide)
  have e6 := hc 6 (by decide)
  rw [h3] at e3
  rw [h6] at e6
  obtain rfl : u3 = c3 := by simpa using e3
  obtain rfl : u6 = c6 := by simpa using e6
  exact ⟨tabcap_of (v := u3) g3' (weightsEach_mem (j := 3) rfl rfl hk'), tabcap_of (v := u6) g5' (weightsEach_mem (j := 5) rfl rfl hk')⟩

set_option maxRecDepth 10000 in
/-- a parameter that is a problem, with its capacities -/
theorem open_probc {v : Value} {d : DataW H} {ps : List MemPlace} {r : Reach} {b0 : Nat} (hv : Value.okWide Try.prog W r b0 26 v) (h : DataW.Trod enc Try.prog W 0 sp held 26 v d ps) (hw : ∀ k ∈ d.weights Try.prog 26, k ≤ reachBytes) : ∃ v0 v1 v2 p, v = .agg #[v0, v1, v2] ∧ IsProb W v0 v1 v2 p ∧ ProbCap W v2 := by
  obtain ⟨v0, v1, v2, y0, y1, y2, n, rfl, rfl, _, h0, h1, h2⟩ := open_agg3 Try.underlying26 (by kernel_rfl) cells1.2.2.2.2.2.2.2.2.2.2 hv h
  have hk' : ∀ k ∈ DataW.weightsEach Try.prog [22, 23, 24] [y0.1, y1.1, y2.1], k ≤ reachBytes := by
    simp only [DataW.weights, Try.underlying26] at hw
    exact hw
  obtain ⟨lp, hlp⟩ := ints_of (v := v0) h0 (weightsEach_mem (j := 0) rfl rfl hk')
  obtain ⟨lo, hlo⟩ := optss_of (v := v1) h1 (weightsEach_mem (j := 1) rfl rfl hk')
  obtain ⟨lr, hlr⟩ := rules_of (v := v2) h2 (weightsEach_mem (j := 2) rfl rfl hk')
  exact ⟨v0, v1, v2, ⟨lp, lo, lr⟩, rfl, ⟨hlp, hlo, hlr⟩, probcap_of (v := v2) h2 (weightsEach_mem (j := 2) rfl rfl hk')⟩
end
end Go.Proofs.Ytmpkbolabdmkkaa
