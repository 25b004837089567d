/- BITS of numbers below 65536: and, or, and-not on int; the number of ones. -/
import Derived.Test.YtmpkbolabdmkkaaZi
import Derived.Test.YtmpkbolabdmkkaaZa
import Derived.Test.YtmpkbolabdmkkaaZd
namespace Go.Proofs.Ytmpkbolabdmkkaa
open Go.RowKit

theorem i64_and_nat (a b : Nat) (ha : a < 9223372036854775808) (hb : b < 9223372036854775808) : bits .and .i64 (a : Int) (b : Int) = ((a &&& b : Nat) : Int) := by
  have hx : a &&& b ≤ a := Nat.and_le_left
  show IntKind.i64.wrap ((BitVec.ofInt 64 (a : Int) &&& BitVec.ofInt 64 (b : Int)).toNat : Int) = _
  rw [BitVec.toNat_and, ofInt_u64 a (by omega), ofInt_u64 b (by omega), IntKind.wrap_i64]
  omega
theorem i64_or_nat (a b : Nat) (ha : a < 9223372036854775808) (hb : b < 9223372036854775808) : bits .or .i64 (a : Int) (b : Int) = ((a ||| b : Nat) : Int) := by
  have hx : a ||| b < 2 ^ 63 := Nat.or_lt_two_pow (by omega) (by omega)
  show IntKind.i64.wrap ((BitVec.ofInt 64 (a : Int) ||| BitVec.ofInt 64 (b : Int)).toNat : Int) = _
  rw [BitVec.toNat_or, ofInt_u64 a (by omega), ofInt_u64 b (by omega), IntKind.wrap_i64]
  omega
theorem i64_andNot_nat (a b : Nat) (ha : a < 9223372036854775808) (hb : b < 9223372036854775808) : bits .andNot .i64 (a : Int) (b : Int) = ((a &&& (18446744073709551615 - b) : Nat) : Int) := by
  have hx : a &&& (18446744073709551615 - b) ≤ a := Nat.and_le_left
  show IntKind.i64.wrap ((BitVec.ofInt 64 (a : Int) &&& ~~~BitVec.ofInt 64 (b : Int)).toNat : Int) = _
  rw [BitVec.toNat_and, BitVec.toNat_not, ofInt_u64 a (by omega), ofInt_u64 b (by omega), IntKind.wrap_i64]
  have e : 2 ^ 64 - 1 - b = 18446744073709551615 - b := by omega
  rw [e]
  omega

theorem testBit_not (a b j : Nat) (hb : b < 2 ^ 64) : (a &&& (18446744073709551615 - b)).testBit j = (a.testBit j && (decide (j < 64) && !b.testBit j)) := by
  rw [Nat.testBit_and]
  have e : 18446744073709551615 - b = 2 ^ 64 - (b + 1) := by omega
  rw [e, Nat.testBit_two_pow_sub_succ hb]
/-- all n ones without those of b -/
theorem full_not {n b : Nat} (hn : n ≤ 16) (hb : b < 2 ^ n) : (2 ^ n - 1) &&& (18446744073709551615 - b) = 2 ^ n - 1 - b := by
  have hp : 2 ^ n ≤ 2 ^ 16 := Nat.pow_le_pow_right (by decide) hn
  apply Nat.eq_of_testBit_eq
  intro j
  rw [testBit_not _ _ _ (by omega), Nat.testBit_two_pow_sub_one]
  have e : 2 ^ n - 1 - b = 2 ^ n - (b + 1) := by omega
  rw [e, Nat.testBit_two_pow_sub_succ hb]
  by_cases h : j < n
  · simp [h, show j < 64 by omega]
  · simp [h]
theorem nat_add_or {a b : Nat} (ha : a < 18446744073709551616) (hb : b < 18446744073709551616) (h : a &&& b = 0) : a + b = a ||| b := by
  have hx : (BitVec.ofNat 64 a).toNat = a := by rw [BitVec.toNat_ofNat]; exact Nat.mod_eq_of_lt (by omega)
  have hy : (BitVec.ofNat 64 b).toNat = b := by rw [BitVec.toNat_ofNat]; exact Nat.mod_eq_of_lt (by omega)
  have h0 : BitVec.ofNat 64 a &&& BitVec.ofNat 64 b = 0#64 := by
    apply BitVec.eq_of_toNat_eq; rw [BitVec.toNat_and, hx, hy, h]; rfl
  have h1 := BitVec.toNat_add_of_and_eq_zero h0
  have h2 := BitVec.add_eq_or_of_and_eq_zero _ _ h0
  rw [hx, hy] at h1
  rw [← h1, h2, BitVec.toNat_or, hx, hy]
/-- without one bit that is there -/
theorem bit_not {s k : Nat} (hs : s < 65536) (h : s.testBit k = true) : s &&& (18446744073709551615 - 2 ^ k) = s - 2 ^ k ∧ 2 ^ k ≤ s := by
  have hle : 2 ^ k ≤ s := Nat.ge_two_pow_of_testBit h
  refine ⟨?_, hle⟩
  have hk : k < 64 := by
    rcases Nat.lt_or_ge k 64 with h1 | h1
    · exact h1
    · have := Nat.pow_le_pow_right (show 0 < 2 by decide) h1; omega
  have h1 : (s &&& (18446744073709551615 - 2 ^ k)) ||| 2 ^ k = s := by
    apply Nat.eq_of_testBit_eq
    intro j
    rw [Nat.testBit_or, testBit_not _ _ _ (by omega), Nat.testBit_two_pow]
    by_cases hj : k = j
    · subst hj; simp [h]
    · by_cases h64 : j < 64
      · simp [hj, h64]
      · have : s.testBit j = false := Nat.testBit_lt_two_pow (Nat.lt_of_lt_of_le (show s < 2 ^ 16 by omega) (Nat.pow_le_pow_right (by decide) (by omega)))
        simp [this, hj]
  have h0 : (s &&& (18446744073709551615 - 2 ^ k)) &&& 2 ^ k = 0 := by
    apply Nat.eq_of_testBit_eq
    intro j
    rw [Nat.testBit_and, testBit_not _ _ _ (by omega), Nat.testBit_two_pow]
    by_cases hj : k = j
    · subst hj; simp
    · simp [hj]
  have h3 : s &&& (18446744073709551615 - 2 ^ k) ≤ s := Nat.and_le_left
  have h2 := nat_add_or (by omega) (by omega) h0
  rw [h1] at h2
  omega

/-- how many of the first n bits are ones -/
def cnt (n x : Nat) : Nat := ((List.range n).filter fun k => x.testBit k).length
theorem cnt_succ (n x : Nat) : cnt (n + 1) x = cnt n x + if x.testBit n = true then 1 else 0 := by
  unfold cnt; rw [List.range_succ, List.filter_append, List.length_append]
  congr 1
  cases h : x.testBit n <;> simp [h]
theorem cnt_congr {x y : Nat} : ∀ n, (∀ k, k < n → x.testBit k = y.testBit k) → cnt n x = cnt n y
  | 0, _ => rfl
  | n + 1, h => by rw [cnt_succ, cnt_succ, cnt_congr n (fun k hk => h k (by omega)), h n (by omega)]
theorem cnt_more {x n : Nat} (hx : x < 2 ^ n) : ∀ m, cnt (n + m) x = cnt n x
  | 0 => rfl
  | m + 1 => by
    rw [← Nat.add_assoc, cnt_succ, cnt_more hx m, Nat.testBit_lt_two_pow (Nat.lt_of_lt_of_le hx (Nat.pow_le_pow_right (by decide) (Nat.le_add_right n m)))]; rfl
theorem cnt_le (n x : Nat) : cnt n x ≤ n := by
  unfold cnt; exact Nat.le_trans (List.length_filter_le _ _) (by simp)

/-- what the library reckons -/
def ones64 (x : Nat) : Nat :=
  let y1 := (x / 2 &&& 6148914691236517205) + (x &&& 6148914691236517205)
  let y2 := (y1 / 4 &&& 3689348814741910323) + (y1 &&& 3689348814741910323)
  let y3 := (y2 / 16 + y2) &&& 1085102592571150095
  let y4 := y3 / 256 + y3
  let y5 := y4 / 65536 + y4
  let y6 := y5 / 4294967296 + y5
  y6 % 128
def chk : Nat → Nat → Nat → Bool
  | 0, x, c => ones64 x == c
  | d + 1, x, c => chk d (2 * x) c && chk d (2 * x + 1) (c + 1)
theorem chk_all : chk 16 0 0 = true := by kernel_rfl
theorem chk_spec : ∀ d x c, chk d x c = true → ∀ y, y < 2 ^ d → ones64 (2 ^ d * x + y) = c + cnt d y
  | 0, x, c, h, y, hy => by
    obtain rfl : y = 0 := by omega
    have : ones64 x = c := by simpa [chk] using h
    simpa [cnt] using this
  | d + 1, x, c, h, y, hy => by
    unfold chk at h
    rw [Bool.and_eq_true] at h
    by_cases hlt : y < 2 ^ d
    · have h1 := chk_spec d (2 * x) c h.1 y hlt
      rw [cnt_succ, Nat.testBit_lt_two_pow hlt, show 2 ^ (d + 1) * x + y = 2 ^ d * (2 * x) + y by rw [Nat.pow_succ, Nat.mul_assoc], h1]; simp
    · obtain ⟨z, rfl⟩ : ∃ z, y = 2 ^ d + z := ⟨y - 2 ^ d, by omega⟩
      have hz : z < 2 ^ d := by rw [Nat.pow_succ] at hy; omega
      have h1 := chk_spec d (2 * x + 1) (c + 1) h.2 z hz
      rw [cnt_succ, Nat.testBit_two_pow_add_eq, Nat.testBit_lt_two_pow hz, show 2 ^ (d + 1) * x + (2 ^ d + z) = 2 ^ d * (2 * x + 1) + z by rw [Nat.pow_succ, Nat.mul_assoc, Nat.mul_add, Nat.mul_one]; omega, h1,
        cnt_congr (y := z) d (fun k hk => Nat.testBit_two_pow_add_gt hk z)]
      simp; omega
theorem ones_cnt {x n : Nat} (hn : n ≤ 16) (hx : x < 2 ^ n) : ones64 x = cnt n x := by
  have h16 : x < 2 ^ 16 := Nat.lt_of_lt_of_le hx (Nat.pow_le_pow_right (by decide) hn)
  have h1 := chk_spec 16 0 0 chk_all x h16
  rw [Nat.mul_zero, Nat.zero_add, Nat.zero_add] at h1
  rw [h1, ← cnt_more hx (16 - n), show n + (16 - n) = 16 by omega]
end Go.Proofs.Ytmpkbolabdmkkaa

/- WHAT IS POSSIBLE, told without tables; what is forced. -/
namespace Go.Proofs.Ytmpkbolabdmkkaa

theorem nth_set_at {l : List Bool} {i j : Nat} {b : Bool} (hi : i < l.length) : nth (l.set i b) j = if i = j then b else nth l j := by
  by_cases h : i = j
  · subst h; rw [if_pos rfl]; exact nth_set_same hi b
  · rw [if_neg h]; exact nth_set_other (Ne.symm h) b
theorem mark_at (t : List (List Bool)) (f : List Int) {i o : Nat} (hi : i < t.length) (ho : o < (nth t i).length) : ∀ m, (∀ j, j < m → (nth f j).toNat < (nth t j).length) → m ≤ t.length →
    (nth (nth (markTo t f m) i) o = true ↔ nth (nth t i) o = true ∨ (i < m ∧ (nth f i).toNat = o))
  | 0, _, _ => by simp [markTo]
  | m + 1, hb, hm => by
    have ih := mark_at t f hi ho m (fun j hj => hb j (by omega)) (by omega)
    have hsh := markTo_shape t f m
    show nth (nth (setTab (markTo t f m) m (nth f m).toNat true) i) o = true ↔ _
    by_cases him : i = m
    · subst him
      rw [nth_setTab_same (by rw [hsh.1]; exact hi), nth_set_at (by rw [hsh.2]; exact hb i (by omega))]
      by_cases h : (nth f i).toNat = o
      · simp [h]
      · rw [if_neg h, ih]; simp [h]
    · rw [nth_setTab_other him, ih]
      constructor
      · rintro (h | ⟨h1, h2⟩)
        · exact .inl h
        · exact .inr ⟨by omega, h2⟩
      · rintro (h | ⟨h1, h2⟩)
        · exact .inl h
        · exact .inr ⟨by omega, h2⟩
theorem marks_at (t : List (List Bool)) (l : List (List Int)) {i o : Nat} (hi : i < t.length) (ho : o < (nth t i).length) : ∀ k, (∀ m, m < k → ∀ j, j < t.length → (nth (nth l m) j).toNat < (nth t j).length) →
    (nth (nth (marksTo t l t.length k) i) o = true ↔ nth (nth t i) o = true ∨ ∃ m, m < k ∧ (nth (nth l m) i).toNat = o)
  | 0, _ => by simp [marksTo]
  | k + 1, hb => by
    have ih := marks_at t l hi ho k (fun m hm => hb m (by omega))
    have hsh := marksTo_shape t l t.length k
    show nth (nth (markTo (marksTo t l t.length k) (nth l k) t.length) i) o = true ↔ _
    rw [mark_at _ _ (by rw [hsh.1]; exact hi) (by rw [hsh.2]; exact ho) _ (fun j hj => by rw [hsh.2]; exact hb k (by omega) j hj) (by rw [hsh.1]; exact Nat.le_refl _), ih]
    constructor
    · rintro ((h | ⟨m, h1, h2⟩) | ⟨_, h⟩)
      · exact .inl h
      · exact .inr ⟨m, by omega, h2⟩
      · exact .inr ⟨k, by omega, h⟩
    · rintro (h | ⟨m, h1, h2⟩)
      · exact .inl (.inl h)
      · by_cases hmk : m = k
        · subst hmk; exact .inr ⟨hi, h2⟩
        · exact .inl (.inr ⟨m, by omega, h2⟩)

theorem possT_length (p : Prob) : (possT p).length = p.opts.length := possT_len p _
theorem possT_rowlen (p : Prob) {i : Nat} (hi : i < p.opts.length) : (nth (possT p) i).length = (nth p.opts i).length := possT_row p (agr p).length 0 [] hi

theorem poss_iff {p : Prob} (hv : validP p = true) {i o : Nat} (hi : i < p.opts.length) (ho : o < (nth p.opts i).length) : nth (nth (possT p) i) o = true ↔ ∃ f ∈ agr p, nth f i = (o : Int) := by
  have hfl : (fullTab p false).length = p.opts.length := fullTo_len p false (Nat.le_refl _)
  have hfr : ∀ j, j < p.opts.length → nth (fullTab p false) j = List.replicate (nth p.opts j).length false := fun j hj => nth_fullTo p false (Nat.le_refl _) hj
  have h := marks_at (fullTab p false) (agr p) (i := i) (o := o) (by rw [hfl]; exact hi) (by rw [hfr i hi]; simpa using ho) (agr p).length (fun m hm j hj => by
    rw [hfl] at hj
    rw [hfr j hj, List.length_replicate]
    obtain ⟨_, h2, h3, _⟩ := agr_mem hv (nth_mem hm)
    have := h3 j (by rw [h2]; exact hj)
    omega)
  rw [hfl] at h
  show nth (nth (marksTo (fullTab p false) (agr p) p.opts.length (agr p).length) i) o = true ↔ _
  rw [h, hfr i hi]
  constructor
  · rintro (h1 | ⟨m, hm, h1⟩)
    · rw [nth_eq _ _ (by simpa using ho)] at h1; simp at h1
    · refine ⟨_, nth_mem hm, ?_⟩
      obtain ⟨_, h2, h3, _⟩ := agr_mem hv (nth_mem hm)
      have := h3 i (by rw [h2]; exact hi)
      omega
  · rintro ⟨f, hf, h1⟩
    obtain ⟨m, hm, rfl⟩ := List.getElem_of_mem hf
    refine .inr ⟨m, hm, ?_⟩
    rw [nth_eq _ _ hm, h1]; simp

/-- a row's only true place; -1: there is more than one -/
def onlyB (l : List Bool) (k : Int) : Int := if (l.drop (k + 1).toNat).contains true then -1 else k
end Go.Proofs.Ytmpkbolabdmkkaa

/- MEMORY WITH SOME BLOCKS BLANKED: what does not lie in them reads as before, whatever is written there. -/
namespace Go.Proofs.Ytmpkbolabdmkkaa
open Go.RowKit

/-- what is found in w is found in w' -/
structure Cov (w w' : World) : Prop where
  size : w.heap.size ≤ w'.heap.size
  cell : ∀ (b o : Nat) (u : Value), w.cell? ⟨b, o, none⟩ = some u → w'.cell? ⟨b, o, none⟩ = some u
section cov
variable {w w' : World} (hc : Cov w w')
include hc
theorem IsInts.cov {v : Value} {l : List Int} (h : IsInts w v l) : IsInts w' v l :=
  let ⟨a, c, hv, hl, h⟩ := h
  ⟨a, c, hv, hl, fun i hi => let ⟨b, o, ha, hb, e⟩ := h i hi; ⟨b, o, ha, Nat.lt_of_lt_of_le hb hc.size, hc.cell _ _ _ e⟩⟩
theorem IsBools.cov {v : Value} {l : List Bool} (h : IsBools w v l) : IsBools w' v l :=
  let ⟨a, c, hv, hl, h⟩ := h
  ⟨a, c, hv, hl, fun i hi => let ⟨b, o, ha, hb, e⟩ := h i hi; ⟨b, o, ha, Nat.lt_of_lt_of_le hb hc.size, hc.cell _ _ _ e⟩⟩
theorem OptAt.cov {b o : Nat} {x : Opt} (h : OptAt w b o x) : OptAt w' b o x := ⟨hc.cell _ _ _ h.1, hc.cell _ _ _ h.2.1, hc.cell _ _ _ h.2.2.1, hc.cell _ _ _ h.2.2.2⟩
theorem IsOpts.cov {v : Value} {l : List Opt} (h : IsOpts w v l) : IsOpts w' v l :=
  let ⟨a, c, hv, hl, h⟩ := h
  ⟨a, c, hv, hl, fun i hi => let ⟨b, o, ha, hb, e⟩ := h i hi; ⟨b, o, ha, Nat.lt_of_lt_of_le hb hc.size, OptAt.cov hc e⟩⟩
theorem IsOptss.cov {v : Value} {l : List (List Opt)} (h : IsOptss w v l) : IsOptss w' v l :=
  let ⟨a, c, hv, hl, h⟩ := h
  ⟨a, c, hv, hl, fun i hi => let ⟨b, o, ha, hb, u, e, hu⟩ := h i hi; ⟨b, o, ha, Nat.lt_of_lt_of_le hb hc.size, u, hc.cell _ _ _ e, IsOpts.cov hc hu⟩⟩
theorem IsBoolss.cov {v : Value} {l : List (List Bool)} (h : IsBoolss w v l) : IsBoolss w' v l :=
  let ⟨a, c, hv, hl, h⟩ := h
  ⟨a, c, hv, hl, fun i hi => let ⟨b, o, ha, hb, u, e, hu⟩ := h i hi; ⟨b, o, ha, Nat.lt_of_lt_of_le hb hc.size, u, hc.cell _ _ _ e, IsBools.cov hc hu⟩⟩
theorem IsRl.cov {v0 v1 v2 : Value} {p : Rl} (h : IsRl w v0 v1 v2 p) : IsRl w' v0 v1 v2 p := ⟨h.panes.cov hc, h.hits.cov hc, h.ok.cov hc⟩
theorem RlAt.cov {b o : Nat} {x : Rl} (h : RlAt w b o x) : RlAt w' b o x :=
  let ⟨u2, u3, u6, h0, h1, h2, h3, h4, h5, h6, i2, i3, i6⟩ := h
  ⟨u2, u3, u6, hc.cell _ _ _ h0, hc.cell _ _ _ h1, hc.cell _ _ _ h2, hc.cell _ _ _ h3, hc.cell _ _ _ h4, hc.cell _ _ _ h5, hc.cell _ _ _ h6, i2.cov hc, i3.cov hc, i6.cov hc⟩
theorem IsRules.cov {v : Value} {l : List Rl} (h : IsRules w v l) : IsRules w' v l :=
  let ⟨a, c, hv, hl, h⟩ := h
  ⟨a, c, hv, hl, fun i hi => let ⟨b, o, ha, hb, e⟩ := h i hi; ⟨b, o, ha, Nat.lt_of_lt_of_le hb hc.size, RlAt.cov hc e⟩⟩
theorem IsProb.cov {v0 v1 v2 : Value} {p : Prob} (h : IsProb w v0 v1 v2 p) : IsProb w' v0 v1 v2 p := ⟨h.panes.cov hc, h.opts.cov hc, h.rules.cov hc⟩
end cov

/-- the world with some blocks blanked -/
def wout (P : Nat → Bool) (w : World) : World := { w with heap := w.heap.mapIdx fun k o => if P k = true then .cells #[] 0 else o }
theorem wout_size (P : Nat → Bool) (w : World) : (wout P w).heap.size = w.heap.size := by simp [wout]
theorem wout_block {P : Nat → Bool} {w : World} {k : Nat} (h : P k = false) : (wout P w).heap[k]? = w.heap[k]? := by
  simp [wout, Array.getElem?_mapIdx, h]
theorem wout_blank {P : Nat → Bool} {w : World} {k o : Nat} (h : P k = true) : (wout P w).cell? ⟨k, o, none⟩ = none := by
  unfold World.cell? wout
  simp only [Array.getElem?_mapIdx, h, if_true]
  cases w.heap[k]? <;> simp
/-- what lies outside some blocks lies outside others, too, where these are all that was written or are free -/
theorem cov_out {P P' : Nat → Bool} {w w' : World} (hs : w.heap.size ≤ w'.heap.size) (h : ∀ k, k < w.heap.size → P k = false → P' k = false ∧ w'.heap[k]? = w.heap[k]?) : Cov (wout P w) (wout P' w') := by
  refine ⟨by rw [wout_size, wout_size]; exact hs, fun b o u e => ?_⟩
  cases hP : P b
  · have hlt : b < w.heap.size := by
      rcases Nat.lt_or_ge b w.heap.size with h1 | h1
      · exact h1
      · unfold World.cell? at e
        rw [wout_block hP, Array.getElem?_eq_none (by simpa using h1)] at e
        cases e
    obtain ⟨h1, h2⟩ := h b hlt hP
    rw [← e]
    exact World.cell?_of_block (a := ⟨b, o, none⟩) ((wout_block h1).trans (h2.trans (wout_block hP).symm))
  · rw [wout_blank hP] at e; cases e
theorem cov_all (P : Nat → Bool) (w : World) : Cov (wout P w) w := by
  have h := @cov_out P (fun _ => false) w w (Nat.le_refl _) (fun k _ _ => ⟨rfl, rfl⟩)
  refine ⟨by rw [wout_size]; exact Nat.le_refl _, fun b o u e => ?_⟩
  have := h.cell b o u e
  rw [← this]
  exact (World.cell?_of_block (a := ⟨b, o, none⟩) (wout_block rfl)).symm
theorem cov_below {P : Nat → Bool} {w w' : World} (hb : Below w.heap.size w w') : Cov (wout P w) (wout P w') := cov_out hb.size fun k hk hP => ⟨hP, hb.block k hk⟩

/-- a row of the call's own, seen where other blocks are blanked -/
theorem owns_out {P : Nat → Bool} {w : World} {B : Nat} {e : TypeId} {sz n : Nat} {v : Value} {xs : List Value} (h : w.ownsRow B e sz v n xs) (hP : ∀ b, v.ownBlock = some b → P b = false) : (wout P w).ownsRow B e sz v n xs := by
  refine ⟨h.1, ?_⟩
  rcases h.2 with h0 | ⟨g, cap, cur, rfl, h2, h3, h4⟩
  · exact .inl h0
  · exact .inr ⟨g, cap, cur, rfl, h2, (wout_block (hP g rfl)).trans h3, h4⟩
theorem owns_cellN {w : World} {B : Nat} {e : TypeId} {sz : Nat} {v : Value} {n : Nat} {xs : List Value} (h : w.ownsRow B e sz v n xs) :
    ∃ a c, v = .slice a n c ∧ xs.length = n * sz ∧ ∀ j, j < n * sz → ∃ g, a = some ⟨g, 0, none⟩ ∧ B ≤ g ∧ g < w.heap.size ∧ v.ownBlock = some g ∧ w.cell? ⟨g, j, none⟩ = xs[j]? := by
  have hl := h.1
  rcases id h.2 with ⟨rfl, rfl⟩ | ⟨g, cap, cur, rfl, hb, hg, _⟩
  · exact ⟨none, 0, rfl, hl, fun i hi => by simp at hi⟩
  · refine ⟨_, cap, rfl, hl, fun i hi => ⟨g, rfl, hb, (Array.getElem?_eq_some_iff.1 hg).1, rfl, ?_⟩⟩
    have := h.cells (g := g) rfl i xs[i] (by simp [hl, hi])
    have hadd : (⟨g, 0, none⟩ : Addr).add i = ⟨g, 0 + i, none⟩ := by unfold Addr.add; split <;> simp_all
    rw [hadd, Nat.zero_add] at this
    rw [this]; simp [hl, hi]
theorem flat_len {α β : Type} (f : α → List β) {s : Nat} (hf : ∀ x, (f x).length = s) : ∀ l : List α, (l.flatMap f).length = l.length * s
  | [] => by simp
  | x :: l => by rw [List.flatMap_cons, List.length_append, hf, flat_len f hf l, List.length_cons, Nat.add_mul]; omega
theorem flat_at {α β : Type} [Inhabited α] (f : α → List β) {s : Nat} (hf : ∀ x, (f x).length = s) : ∀ (l : List α) (i c : Nat), i < l.length → c < s → (l.flatMap f)[i * s + c]? = (f (nth l i))[c]?
  | [], i, c, hi, _ => by simp at hi
  | x :: l, 0, c, _, hc => by
    rw [List.flatMap_cons, List.getElem?_append_left (by rw [hf]; omega), Nat.zero_mul, Nat.zero_add]; rfl
  | x :: l, i + 1, c, hi, hc => by
    rw [List.flatMap_cons, List.getElem?_append_right (by rw [hf, Nat.add_mul]; omega), hf]
    rw [show (i + 1) * s + c - s = i * s + c by rw [Nat.add_mul]; omega]
    exact flat_at f hf l i c (by simpa using hi) hc

/-- the cells of an option -/
def optCells (o : Opt) : List Value := [.int .i64 o.piece, .int .i64 o.shift, .bool o.back, .int .i64 o.colour]
theorem isOpts_of_owns {w : World} {B : Nat} {e : TypeId} {v : Value} {l : List Opt} (h : w.ownsRow B e 4 v l.length (l.flatMap optCells)) (hn : l.length ≤ 4398046511104) : IsOpts w v l := by
  obtain ⟨a, c, hv, _, hc⟩ := owns_cellN h
  refine ⟨a, c, hv, hn, fun i hi => ?_⟩
  have key : ∀ j, j < 4 → ∃ g, a = some ⟨g, 0, none⟩ ∧ g < w.heap.size ∧ w.cell? ⟨g, i * 4 + j, none⟩ = (optCells (nth l i))[j]? := fun j hj => by
    obtain ⟨g, ha, _, hg, _, e⟩ := hc (i * 4 + j) (by omega)
    exact ⟨g, ha, hg, e.trans (flat_at optCells (fun _ => rfl) l i j hi hj)⟩
  obtain ⟨g, ha, hg, e0⟩ := key 0 (by omega)
  obtain ⟨_, ha1, _, e1⟩ := key 1 (by omega)
  obtain ⟨_, ha2, _, e2⟩ := key 2 (by omega)
  obtain ⟨_, ha3, _, e3⟩ := key 3 (by omega)
  subst ha
  cases ha1; cases ha2; cases ha3
  refine ⟨g, 0, rfl, hg, ?_, ?_, ?_, ?_⟩
  · rw [Nat.zero_add]; exact e0
  · rw [Nat.zero_add]; exact e1
  · rw [Nat.zero_add]; exact e2
  · rw [Nat.zero_add]; exact e3
/-- a table of the call's own lies in what it made -/
theorem OwnTab.fresh {W : World} {y : Later W} {v : Value} {t : List (List Bool)} {vs : List Value} (h : OwnTab y v t vs) (hn : t.length ≤ 5864062014805) (hr : ∀ i, i < t.length → (nth t i).length ≤ 140737488355328) : IsBoolss (wout (fun k => decide (k < W.heap.size)) y.w) v t := by
  have hP : ∀ {e : TypeId} {n : Nat} {q : Value} {xs : List Value}, y.w.ownsRow W.heap.size e 1 q n xs → ∀ b, q.ownBlock = some b → decide (b < W.heap.size) = false := fun hq b hb => by
    have := (hq.lt b hb).1
    rw [decide_eq_false_iff_not]; omega
  obtain ⟨a, c, hv, _, hc⟩ := owns_cell (owns_out h.outer (P := fun k => decide (k < W.heap.size)) (hP h.outer))
  refine ⟨a, c, hv, hn, fun i hi => ?_⟩
  obtain ⟨b, ha, _, hb, hcell⟩ := hc i hi
  obtain ⟨u, hu, hI⟩ := h.rows i hi
  exact ⟨b, 0, ha, hb, u, hcell.trans hu, isBools_of_owns (owns_out hI (hP hI)) (hr i hi)⟩
theorem owns_fresh {W : World} {y : Later W} {e : TypeId} {sz n : Nat} {v : Value} {xs : List Value} (h : y.w.ownsRow W.heap.size e sz v n xs) : (wout (fun k => decide (k < W.heap.size)) y.w).ownsRow W.heap.size e sz v n xs :=
  owns_out h fun b hb => by
    have := (h.lt b hb).1
    rw [decide_eq_false_iff_not]; omega
/-- what lies in what was made since lies outside elder blocks -/
theorem cov_fresh {n : Nat} {P : Nat → Bool} {w : World} (h : ∀ k, n ≤ k → P k = false) : Cov (wout (fun k => decide (k < n)) w) (wout P w) :=
  cov_out (Nat.le_refl _) fun k _ hk => ⟨h k (by rw [decide_eq_false_iff_not] at hk; omega), rfl⟩
end Go.Proofs.Ytmpkbolabdmkkaa

/- TREES THAT TELL OF ALL FILLINGS, in plain Lean: what a lawful tree tells is what agrees. -/
namespace Go.Proofs.Ytmpkbolabdmkkaa

/-- a node of a survey -/
inductive Nd where
  | mk (kind index : Int) (kids : List Nd)
instance : Inhabited Nd := ⟨.mk 0 0 []⟩
def Nd.kind : Nd → Int | .mk k _ _ => k
def Nd.index : Nd → Int | .mk _ i _ => i
def Nd.kids : Nd → List Nd | .mk _ _ l => l

/-- an option that the first panes leave -/
def leftB (c : List Int) (i k : Nat) : Bool := decide (c.length ≤ i) || nth c i == (k : Int)
/-- the i-th pane of a rule -/
def paneAt (r : Rl) (i : Nat) : Nat := (nth r.panes i).toNat
def hitL (r : Rl) (c : List Int) (i : Nat) : Bool := decide (∃ k, k < (nth r.hits i).length ∧ leftB c (paneAt r i) k = true ∧ nth (nth r.hits i) k = true)
def missL (r : Rl) (c : List Int) (i : Nat) : Bool := decide (∃ k, k < (nth r.hits i).length ∧ leftB c (paneAt r i) k = true ∧ nth (nth r.hits i) k = false)
def mostL (r : Rl) (c : List Int) : Nat → Int
  | 0 => 0
  | k + 1 => if hitL r c k = true then mostL r c k + 1 else mostL r c k
def leastL (r : Rl) (c : List Int) : Nat → Int
  | 0 => 0
  | k + 1 => if missL r c k = true then leastL r c k else leastL r c k + 1
theorem mostL_bd (r : Rl) (c : List Int) : ∀ k : Nat, 0 ≤ mostL r c k ∧ mostL r c k ≤ k
  | 0 => ⟨Int.le_refl _, Int.le_refl _⟩
  | k + 1 => by have := mostL_bd r c k; unfold mostL; split <;> omega
theorem leastL_bd (r : Rl) (c : List Int) : ∀ k : Nat, 0 ≤ leastL r c k ∧ leastL r c k ≤ k
  | 0 => ⟨Int.le_refl _, Int.le_refl _⟩
  | k + 1 => by have := leastL_bd r c k; unfold leastL; split <;> omega
/-- the first panes leave a pair that is allowed -/
def pairL (r : Rl) (c : List Int) : Bool := decide (∃ i, i < r.ok.length ∧ ∃ k, k < (nth r.ok i).length ∧ leftB c (paneAt r 0) i = true ∧ leftB c (paneAt r 1) k = true ∧ nth (nth r.ok i) k = true)
/-- no filling with these first options keeps the rule -/
def brokenB (r : Rl) (c : List Int) : Bool := if r.kind = 2 then !pairL r c else decide (min (mostL r c r.panes.length) r.hi < max (leastL r c r.panes.length) r.lo)
/-- the first pane with the piece of the last one -/
def twinTo (p : Prob) (c : List Int) (i : Nat) : Bool := decide (0 < pieceAt p c i ∧ pieceAt p c i = pieceAt p c (c.length - 1))
def twinO (p : Prob) (c : List Int) : Option Nat := (List.range (c.length - 1)).find? (twinTo p c)
def brokenO (p : Prob) (c : List Int) : Option Nat := (List.range p.rules.length).find? fun i => brokenB (nth p.rules i) c

/-- a leaf is lawful -/
def leafB (p : Prob) (kd ix : Int) (c : List Int) : Bool :=
  if kd = 2 then decide (c.length = p.panes.length ∧ ix = 0) && agreesB p c
  else if kd = 3 then decide (0 < c.length) && wi ix 0 ((c.length : Int) - 2) && decide (0 < pieceAt p c (c.length - 1) ∧ pieceAt p c ix.toNat = pieceAt p c (c.length - 1))
  else if kd = 4 then wi ix 0 ((p.rules.length : Int) - 1) && brokenB (nth p.rules ix.toNat) c
  else false

mutual
def szN : Nd → Nat
  | .mk _ _ ks => 1 + szL ks
def szL : List Nd → Nat
  | [] => 0
  | n :: ks => szN n + szL ks
end
mutual
/-- a tree is lawful below some first options -/
def okN (p : Prob) : Nd → List Int → Bool
  | .mk kd ix ks, c => if kd = 1 then decide (ix = c.length ∧ c.length < p.panes.length ∧ ks.length = (nth p.opts c.length).length) && okL p ks c 0 else decide (ks.length = 0) && leafB p kd ix c
def okL (p : Prob) : List Nd → List Int → Nat → Bool
  | [], _, _ => true
  | n :: ks, c, o => okN p n (c ++ [(o : Int)]) && okL p ks c (o + 1)
end
mutual
/-- the fillings that a tree tells -/
def agN : Nd → List Int → List (List Int)
  | .mk kd _ ks, c => if kd = 1 then agL ks c 0 else if kd = 2 then [c] else []
def agL : List Nd → List Int → Nat → List (List Int)
  | [], _, _ => []
  | n :: ks, c, o => agN n (c ++ [(o : Int)]) ++ agL ks c (o + 1)
end

/-- the fillings that go on from some first options, m panes further -/
def exts (p : Prob) : Nat → List Int → List (List Int)
  | 0, c => [c]
  | m + 1, c => (List.range (dim p c.length)).flatMap fun o : Nat => exts p m (c ++ [(o : Int)])
theorem range_mul {α : Type} (b : Nat) (g : Nat → α) : ∀ a, (List.range (a * b)).map g = (List.range a).flatMap fun i => (List.range b).map fun j => g (i * b + j)
  | 0 => by simp
  | a + 1 => by
    rw [Nat.succ_mul, List.range_add, List.map_append, range_mul b g a, List.range_succ, List.flatMap_append]
    simp [List.map_map, Function.comp_def]
theorem level_step (p : Prob) (k : Nat) (h : 0 < dim p k) : (List.range (prodTo p (k + 1))).map (unr p (k + 1)) = ((List.range (prodTo p k)).map (unr p k)).flatMap fun f => (List.range (dim p k)).map fun o : Nat => f ++ [(o : Int)] := by
  rw [prodTo_succ, range_mul, List.flatMap_map]
  congr 1
  funext i
  apply List.map_congr_left
  intro j hj
  have hj := List.mem_range.1 hj
  rw [unr_succ, Nat.add_comm, Nat.add_mul_div_right _ _ h, Nat.div_eq_of_lt hj, Nat.zero_add, Nat.add_mul_mod_self_right, Nat.mod_eq_of_lt hj]
theorem flatMap_cong {α β : Type} {g h : α → List β} : ∀ {l : List α}, (∀ x ∈ l, g x = h x) → l.flatMap g = l.flatMap h
  | [], _ => rfl
  | x :: l, H => by rw [List.flatMap_cons, List.flatMap_cons, H x (by simp), flatMap_cong (l := l) fun y hy => H y (by simp [hy])]
theorem exts_levels (p : Prob) (hd : ∀ i, i < p.opts.length → 0 < dim p i) : ∀ k m, k + m = p.opts.length → ((List.range (prodTo p k)).map (unr p k)).flatMap (exts p m) = fills p
  | k, 0, h => by
    obtain rfl : k = p.opts.length := by omega
    simp [exts, fills, total, fill, List.flatMap_singleton']
  | k, m + 1, h => by
    rw [← exts_levels p hd (k + 1) m (by omega), level_step p k (hd k (by omega)), List.flatMap_assoc]
    have : ∀ f ∈ (List.range (prodTo p k)).map (unr p k), exts p (m + 1) f = ((List.range (dim p k)).map fun o : Nat => f ++ [(o : Int)]).flatMap (exts p m) := fun f hf => by
      obtain ⟨r, _, rfl⟩ := List.mem_map.1 hf
      show (List.range (dim p (unr p k r).length)).flatMap _ = _
      rw [unr_len, List.flatMap_map]
    rw [flatMap_cong this]
theorem exts_fills {p : Prob} (hv : validP p = true) : exts p p.opts.length [] = fills p := by
  have h := exts_levels p (fun i hi => (valid_dim hv hi).1) 0 p.opts.length (by omega)
  rw [← h]
  simp [prodTo, unr]

/-- what goes on from c: fillings that begin with c -/
theorem exts_mem (p : Prob) : ∀ (m : Nat) (c : List Int), c.length + m = p.opts.length → (∀ i, i < c.length → 0 ≤ nth c i ∧ nth c i < (nth p.opts i).length) → ∀ f ∈ exts p m c, f.length = p.opts.length ∧ (∀ i, i < f.length → 0 ≤ nth f i ∧ nth f i < (nth p.opts i).length) ∧ ∀ i, i < c.length → nth f i = nth c i
  | 0, c, h, hc, f, hf => by
    obtain rfl : f = c := by simpa [exts] using hf
    exact ⟨by omega, hc, fun _ _ => rfl⟩
  | m + 1, c, h, hc, f, hf => by
    obtain ⟨o, ho, hf⟩ := List.mem_flatMap.1 (show f ∈ (List.range (dim p c.length)).flatMap fun o : Nat => exts p m (c ++ [(o : Int)]) from hf)
    have ho := List.mem_range.1 ho
    unfold dim at ho
    obtain ⟨h1, h2, h3⟩ := exts_mem p m (c ++ [(o : Int)]) (by simp; omega) (fun i hi => by
      rw [List.length_append, List.length_singleton] at hi
      rcases Nat.lt_succ_iff_lt_or_eq.1 hi with h1 | rfl
      · rw [nth_append_left h1]; exact hc i h1
      · rw [nth_snoc]; omega) f hf
    exact ⟨h1, h2, fun i hi => by rw [h3 i (by simp; omega), nth_append_left hi]⟩

theorem left_of {c f : List Int} (h : ∀ i, i < c.length → nth f i = nth c i) {i : Nat} (h0 : 0 ≤ nth f i) : leftB c i (nth f i).toNat = true := by
  unfold leftB
  rcases Nat.lt_or_ge i c.length with h1 | h1
  · rw [← h i h1]; simp; omega
  · simp [h1]
theorem most_ge {r : Rl} {c f : List Int} (hl : ∀ i, i < r.panes.length → leftB c (paneAt r i) (chosenAt r f i).toNat = true ∧ (chosenAt r f i).toNat < (nth r.hits i).length) : ∀ k, k ≤ r.panes.length → hitsTo r f k ≤ mostL r c k ∧ leastL r c k ≤ hitsTo r f k
  | 0, _ => ⟨Int.le_refl _, Int.le_refl _⟩
  | k + 1, hk => by
    obtain ⟨h1, h2⟩ := most_ge hl k (by omega)
    obtain ⟨h3, h4⟩ := hl k (by omega)
    unfold mostL leastL hitsTo
    cases hh : hitAt r f k
    · have hm : missL r c k = true := by unfold missL; rw [decide_eq_true_iff]; exact ⟨_, h4, h3, hh⟩
      rw [if_neg (by simp), if_pos hm]
      split <;> omega
    · have hm : hitL r c k = true := by unfold hitL; rw [decide_eq_true_iff]; exact ⟨_, h4, h3, hh⟩
      rw [if_pos rfl, if_pos hm]
      split <;> omega
/-- a broken rule is kept by no filling that goes on -/
theorem broken_sound {p : Prob} (hv : validP p = true) {j : Nat} (hj : j < p.rules.length) {c f : List Int} (hb : brokenB (nth p.rules j) c = true) (hf : f.length = p.opts.length) (hfo : ∀ i, i < f.length → 0 ≤ nth f i ∧ nth f i < (nth p.opts i).length) (hcf : ∀ i, i < c.length → nth f i = nth c i) : keepsB (nth p.rules j) f = false := by
  have hlen := valid_len hv
  unfold brokenB at hb
  rcases ruleOK_iff.1 (valid_rule hv hj) with ⟨hk, hc⟩ | ⟨hk, hc⟩
  · obtain ⟨h1, _, h3⟩ := cnt_at hc
    rw [if_neg (by omega), decide_eq_true_iff] at hb
    have hm := most_ge (r := nth p.rules j) (c := c) (f := f) (fun i hi => by
      obtain ⟨a1, a2, _, a4⟩ := h3 i hi
      have hi2 : (nth (nth p.rules j).panes i).toNat < f.length := by omega
      have h5 := hfo _ hi2
      refine ⟨left_of hcf h5.1, ?_⟩
      rw [a4]; unfold chosenAt; omega) _ (Nat.le_refl _)
    unfold keepsB
    rw [if_neg (by omega), wi_no]
    omega
  · obtain ⟨_, _, _, _, h5, h6, _, h8, h9⟩ := pair_at hc
    rw [if_pos hk] at hb
    unfold keepsB
    rw [if_pos hk]
    have g0 := hfo (nth (nth p.rules j).panes 0).toNat (by omega)
    have g1 := hfo (nth (nth p.rules j).panes 1).toNat (by omega)
    cases ha : nth (nth (nth p.rules j).ok (chosenAt (nth p.rules j) f 0).toNat) (chosenAt (nth p.rules j) f 1).toNat
    · rfl
    · have : pairL (nth p.rules j) c = true := by
        unfold pairL
        rw [decide_eq_true_iff]
        have e0 : (chosenAt (nth p.rules j) f 0).toNat < (nth p.rules j).ok.length := by rw [h8]; unfold chosenAt; omega
        exact ⟨_, e0, (chosenAt (nth p.rules j) f 1).toNat, by rw [h9 _ e0]; have : chosenAt (nth p.rules j) f 1 = nth f (nth (nth p.rules j).panes 1).toNat := rfl; omega, left_of hcf g0.1, left_of hcf g1.1, ha⟩
      rw [this] at hb; cases hb
/-- a piece that is used twice -/
theorem twin_sound {p : Prob} {c f : List Int} {i : Nat} (hi : i < c.length - 1) (h0 : 0 < pieceAt p c (c.length - 1)) (h1 : pieceAt p c i = pieceAt p c (c.length - 1)) (hle : c.length ≤ f.length) (hcf : ∀ i, i < c.length → nth f i = nth c i) : soundB p f = false := by
  have e : ∀ j, j < c.length → pieceAt p f j = pieceAt p c j := fun j hj => by unfold pieceAt; rw [hcf j hj]
  refine soundB_bad (i := c.length - 1) (k := i) (by omega) hi ?_ ?_
  · rw [e _ (by omega)]; exact h0
  · rw [e _ (by omega), e _ (by omega)]; exact h1.symm
theorem leaf_sound {p : Prob} (hv : validP p = true) {kd ix : Int} {c : List Int} {m : Nat} (hm : c.length + m = p.opts.length) (hc : ∀ i, i < c.length → 0 ≤ nth c i ∧ nth c i < (nth p.opts i).length) (h : leafB p kd ix c = true) : (exts p m c).filter (agreesB p) = if kd = 2 then [c] else [] := by
  have hlen := valid_len hv
  have hmem := exts_mem p m c hm hc
  unfold leafB at h
  by_cases h2 : kd = 2
  · rw [if_pos h2, Bool.and_eq_true, decide_eq_true_iff] at h
    obtain rfl : m = 0 := by omega
    rw [if_pos h2]
    simp [exts, h.2]
  · rw [if_neg h2] at h ⊢
    rw [List.filter_eq_nil_iff]
    intro f hf
    obtain ⟨f1, f2, f3⟩ := hmem f hf
    by_cases h3 : kd = 3
    · rw [if_pos h3, Bool.and_eq_true, Bool.and_eq_true, decide_eq_true_iff, decide_eq_true_iff] at h
      have hw := wi_iff.1 h.1.2
      have := twin_sound (p := p) (c := c) (f := f) (i := ix.toNat) (by omega) h.2.1 h.2.2 (by omega) f3
      unfold agreesB; rw [this]; simp
    · rw [if_neg h3] at h
      by_cases h4 : kd = 4
      · rw [if_pos h4, Bool.and_eq_true] at h
        have hw := wi_iff.1 h.1
        have hj : ix.toNat < p.rules.length := by omega
        rw [agreesB_bad hj (broken_sound hv hj h.2 f1 f2 f3)]; simp
      · rw [if_neg h4] at h; cases h

mutual
/-- WHAT A LAWFUL TREE TELLS IS WHAT AGREES -/
theorem tree_sound {p : Prob} (hv : validP p = true) : ∀ (n : Nd) (c : List Int) (m : Nat), c.length + m = p.opts.length → (∀ i, i < c.length → 0 ≤ nth c i ∧ nth c i < (nth p.opts i).length) → okN p n c = true → agN n c = (exts p m c).filter (agreesB p)
  | .mk kd ix ks, c, m, hm, hc, h => by
    unfold okN at h
    unfold agN
    by_cases h1 : kd = 1
    · rw [if_pos h1, Bool.and_eq_true, decide_eq_true_iff] at h
      rw [if_pos h1]
      obtain ⟨⟨_, h2, h3⟩, h4⟩ := h
      have hlen := valid_len hv
      cases m with
      | zero => omega
      | succ m =>
        rw [trees_sound hv ks c m 0 (by omega) hc (by omega) h4]
        show _ = ((List.range (dim p c.length)).flatMap _).filter _
        rw [show ks.length = dim p c.length from h3]
        simp [List.filter_flatMap]
    · rw [if_neg h1, Bool.and_eq_true] at h
      rw [if_neg h1, leaf_sound hv hm hc h.2]
theorem trees_sound {p : Prob} (hv : validP p = true) : ∀ (ks : List Nd) (c : List Int) (m o : Nat), c.length + m + 1 = p.opts.length → (∀ i, i < c.length → 0 ≤ nth c i ∧ nth c i < (nth p.opts i).length) → o + ks.length ≤ (nth p.opts c.length).length → okL p ks c o = true →
    agL ks c o = (List.range ks.length).flatMap fun k => (exts p m (c ++ [((o + k : Nat) : Int)])).filter (agreesB p)
  | [], _, _, _, _, _, _, _ => by simp [agL]
  | n :: ks, c, m, o, hm, hc, ho, h => by
    unfold okL at h
    rw [Bool.and_eq_true] at h
    rw [List.length_cons] at ho
    have hn : n.kids.length = n.kids.length := rfl
    unfold agL
    rw [tree_sound hv n (c ++ [(o : Int)]) m (by simp; omega) (fun i hi => by
      rw [List.length_append, List.length_singleton] at hi
      rcases Nat.lt_succ_iff_lt_or_eq.1 hi with h1 | rfl
      · rw [nth_append_left h1]; exact hc i h1
      · rw [nth_snoc]; omega) h.1, trees_sound hv ks c m (o + 1) hm hc (by omega) h.2]
    rw [List.length_cons, List.range_succ_eq_map, List.flatMap_cons, List.flatMap_map, Nat.add_zero]
    congr 2
    funext k
    rw [show o + 1 + k = o + k.succ by omega]
end
theorem tree_agr {p : Prob} (hv : validP p = true) {n : Nd} (h : okN p n [] = true) : agN n [] = agr p := by
  rw [tree_sound hv n [] p.opts.length (by simp) (fun i hi => absurd hi (Nat.not_lt_zero _)) h, exts_fills hv]; rfl
end Go.Proofs.Ytmpkbolabdmkkaa

/- HOW WIDE A TREE IS, in plain Lean. -/
namespace Go.Proofs.Ytmpkbolabdmkkaa

mutual
/-- how many nodes a tree has, or some number above m -/
def wideN : Nd → Int → Int
  | .mk _ _ ks, m => wideL ks m 1
def wideL : List Nd → Int → Int → Int
  | [], _, s => s
  | n :: ks, m, s => if s ≤ m then wideL ks m (s + wideN n (m - s)) else s
end
mutual
theorem wideN_bd : ∀ (n : Nd) (m : Int), 0 ≤ m → 1 ≤ wideN n m ∧ wideN n m ≤ m + 1 ∧ (wideN n m ≤ m → wideN n m = szN n)
  | .mk _ _ ks, m, h => by
    obtain ⟨h1, h2, h3⟩ := wideL_bd ks m 1 (by omega) (by omega)
    unfold wideN szN
    exact ⟨h1, h2, fun h => by rw [h3 h]; omega⟩
theorem wideL_bd : ∀ (ks : List Nd) (m s : Int), 1 ≤ s → s ≤ m + 1 → s ≤ wideL ks m s ∧ wideL ks m s ≤ m + 1 ∧ (wideL ks m s ≤ m → wideL ks m s = s + szL ks)
  | [], m, s, h, h2 => by unfold wideL szL; omega
  | n :: ks, m, s, h, h2 => by
    unfold wideL szL
    split
    · obtain ⟨a1, a2, a3⟩ := wideN_bd n (m - s) (by omega)
      obtain ⟨b1, b2, b3⟩ := wideL_bd ks m (s + wideN n (m - s)) (by omega) (by omega)
      refine ⟨by omega, b2, fun h => ?_⟩
      rw [b3 h, a3 (by omega)]; omega
    · omega
end
theorem wideL_drop {ks : List Nd} {k : Nat} (hk : k < ks.length) {m s : Int} (h : s ≤ m) : wideL (ks.drop k) m s = wideL (ks.drop (k + 1)) m (s + wideN (nth ks k) (m - s)) := by
  rw [List.drop_eq_getElem_cons hk, wideL, if_pos h, nth_eq _ _ hk]
theorem wideL_stop (ks : List Nd) {m s : Int} (h : m < s) : wideL ks m s = s := by
  cases ks with
  | nil => rfl
  | cons n ks => rw [wideL, if_neg (by omega)]
theorem wideN_kids (n : Nd) (m : Int) : wideN n m = wideL n.kids m 1 := by cases n; rfl
end Go.Proofs.Ytmpkbolabdmkkaa

/- HOW WIDE A TREE IS: never more than it has nodes. -/
namespace Go.Proofs.Ytmpkbolabdmkkaa

mutual
theorem wideN_le : ∀ (n : Nd) (m : Int), 0 ≤ m → wideN n m ≤ szN n
  | .mk _ _ ks, m, h => by
    have := wideL_le ks m 1 (by omega) (by omega)
    unfold wideN szN; omega
theorem wideL_le : ∀ (ks : List Nd) (m s : Int), 1 ≤ s → s ≤ m + 1 → wideL ks m s ≤ s + szL ks
  | [], m, s, h, h2 => by unfold wideL szL; omega
  | n :: ks, m, s, h, h2 => by
    unfold wideL szL
    split
    · have h3 := wideN_le n (m - s) (by omega)
      obtain ⟨a1, a2, _⟩ := wideN_bd n (m - s) (by omega)
      have h4 := wideL_le ks m (s + wideN n (m - s)) (by omega) (by omega)
      omega
    · omega
end
end Go.Proofs.Ytmpkbolabdmkkaa

/- THE TREE THAT IS MADE, in plain Lean: it is lawful, and not large. -/
namespace Go.Proofs.Ytmpkbolabdmkkaa

theorem szL_append : ∀ (a b : List Nd), szL (a ++ b) = szL a + szL b
  | [], b => by simp [szL]
  | n :: a, b => by simp only [List.cons_append, szL]; rw [szL_append a b]; omega

/-- the tree below some first options, m panes further -/
def surv (p : Prob) : Nat → List Int → Nd
  | m, c => match twinO p c with
    | some i => .mk 3 i []
    | none => match brokenO p c with
      | some i => .mk 4 i []
      | none => match m with
        | 0 => .mk 2 0 []
        | m + 1 => .mk 1 c.length ((List.range (nth p.opts c.length).length).map fun k : Nat => surv p m (c ++ [(k : Int)]))
/-- the first k kids of it -/
def survTo (p : Prob) (m : Nat) (c : List Int) (k : Nat) : List Nd := (List.range k).map fun k : Nat => surv p m (c ++ [(k : Int)])
theorem survTo_succ (p : Prob) (m : Nat) (c : List Int) (k : Nat) : survTo p m c (k + 1) = survTo p m c k ++ [surv p m (c ++ [(k : Int)])] := by simp [survTo, List.range_succ]
theorem survTo_len (p : Prob) (m : Nat) (c : List Int) (k : Nat) : (survTo p m c k).length = k := by simp [survTo]
theorem surv_twin {p : Prob} {m i : Nat} {c : List Int} (h : twinO p c = some i) : surv p m c = .mk 3 i [] := by unfold surv; rw [h]
theorem surv_rule {p : Prob} {m i : Nat} {c : List Int} (h : twinO p c = none) (h2 : brokenO p c = some i) : surv p m c = .mk 4 i [] := by unfold surv; rw [h, h2]
theorem surv_leaf {p : Prob} {c : List Int} (h : twinO p c = none) (h2 : brokenO p c = none) : surv p 0 c = .mk 2 0 [] := by unfold surv; rw [h, h2]
theorem surv_branch {p : Prob} {m : Nat} {c : List Int} (h : twinO p c = none) (h2 : brokenO p c = none) : surv p (m + 1) c = .mk 1 c.length (survTo p m c (nth p.opts c.length).length) := by
  rw [surv, h, h2]; rfl

/-- the product of the numbers of options from pane i on -/
def restP (p : Prob) : Nat → Nat → Nat
  | 0, _ => 1
  | m + 1, i => dim p i * restP p m (i + 1)
theorem rest_prod (p : Prob) : ∀ m i, prodTo p i * restP p m i = prodTo p (i + m)
  | 0, i => by simp [restP]
  | m + 1, i => by
    show prodTo p i * (dim p i * restP p m (i + 1)) = _
    rw [← Nat.mul_assoc, ← prodTo_succ, rest_prod p m (i + 1)]
    congr 1; omega
theorem rest_pos (p : Prob) (hd : ∀ i, i < p.opts.length → 0 < dim p i) : ∀ m i, i + m = p.opts.length → 0 < restP p m i
  | 0, _, _ => Nat.one_pos
  | m + 1, i, h => Nat.mul_pos (hd i (by omega)) (rest_pos p hd m (i + 1) (by omega))
theorem szL_le {N : Nat} : ∀ (l : List Nd), (∀ n ∈ l, szN n ≤ N) → szL l ≤ l.length * N
  | [], _ => by simp [szL]
  | n :: l, h => by
    have h1 := h n (by simp)
    have h2 := szL_le l fun x hx => h x (by simp [hx])
    simp only [szL, List.length_cons, Nat.succ_mul]; omega
theorem surv_size (p : Prob) (hd : ∀ i, i < p.opts.length → 0 < dim p i) : ∀ (m : Nat) (c : List Int), c.length + m = p.opts.length → szN (surv p m c) ≤ 1 + m * restP p m c.length
  | m, c, h => by
    cases h1 : twinO p c with
    | some i => rw [surv_twin h1]; simp [szN, szL]
    | none =>
      cases h2 : brokenO p c with
      | some i => rw [surv_rule h1 h2]; simp [szN, szL]
      | none =>
        cases m with
        | zero => rw [surv_leaf h1 h2]; simp [szN, szL]
        | succ m =>
          rw [surv_branch h1 h2]
          simp only [szN]
          have hk := szL_le (N := 1 + m * restP p m (c.length + 1)) (survTo p m c (nth p.opts c.length).length) (fun n hn => by
            obtain ⟨k, _, rfl⟩ := List.mem_map.1 hn
            have := surv_size p hd m (c ++ [(k : Int)]) (by simp; omega)
            simpa using this)
          rw [survTo_len] at hk
          have hr := rest_pos p hd m (c.length + 1) (by omega)
          show 1 + szL _ ≤ 1 + (m + 1) * (dim p c.length * restP p m (c.length + 1))
          have e : (nth p.opts c.length).length = dim p c.length := rfl
          rw [e] at hk ⊢
          generalize dim p c.length = d at *
          generalize restP p m (c.length + 1) = R at *
          have : d * (1 + m * R) ≤ (m + 1) * (d * R) := by
            rw [Nat.mul_add, Nat.mul_one, Nat.succ_mul]
            have h3 : d ≤ d * R := Nat.le_mul_of_pos_right d hr
            have h4 : d * (m * R) = m * (d * R) := by rw [Nat.mul_left_comm]
            omega
          omega
theorem surv_small {p : Prob} (hv : validP p = true) (h : total p ≤ 300) : szN (surv p p.opts.length []) ≤ 19201 := by
  have h1 := surv_size p (fun i hi => (valid_dim hv hi).1) p.opts.length [] (by simp)
  have h2 := rest_prod p p.opts.length 0
  have h3 := valid_pane64 hv
  have h4 := valid_len hv
  rw [Nat.zero_add] at h2
  have h5 : restP p p.opts.length 0 = total p := by rw [show total p = prodTo p p.opts.length from rfl, ← h2]; simp [prodTo]
  rw [List.length_nil, h5] at h1
  have : p.opts.length * total p ≤ 64 * 300 := Nat.mul_le_mul (by omega) h
  omega

theorem left_full {c : List Int} {i k : Nat} (hi : i < c.length) (h0 : 0 ≤ nth c i) : leftB c i k = true ↔ k = (nth c i).toNat := by
  unfold leftB
  rw [Bool.or_eq_true, decide_eq_true_iff, beq_iff_eq]
  omega
theorem most_full {r : Rl} {c : List Int} (hl : ∀ i, i < r.panes.length → paneAt r i < c.length ∧ 0 ≤ nth c (paneAt r i) ∧ (chosenAt r c i).toNat < (nth r.hits i).length) : ∀ k, k ≤ r.panes.length → mostL r c k = hitsTo r c k ∧ leastL r c k = hitsTo r c k
  | 0, _ => ⟨rfl, rfl⟩
  | k + 1, hk => by
    obtain ⟨h1, h2⟩ := most_full hl k (by omega)
    obtain ⟨h3, h4, h5⟩ := hl k (by omega)
    have e : chosenAt r c k = nth c (paneAt r k) := rfl
    have hh : ∀ b, (∃ j, j < (nth r.hits k).length ∧ leftB c (paneAt r k) j = true ∧ nth (nth r.hits k) j = b) ↔ hitAt r c k = b := fun b => by
      constructor
      · rintro ⟨j, _, h6, h7⟩
        obtain rfl := (left_full h3 h4).1 h6
        exact h7
      · intro h; exact ⟨_, h5, (left_full h3 h4).2 (by rw [e]), h⟩
    unfold mostL leastL hitsTo hitL missL
    cases hb : hitAt r c k
    · rw [decide_eq_false (fun h => by rw [(hh true).1 h] at hb; cases hb), decide_eq_true ((hh false).2 hb)]
      simp [h1, h2]
    · rw [decide_eq_true ((hh true).2 hb), decide_eq_false (fun h => by rw [(hh false).1 h] at hb; cases hb)]
      simp [h1, h2]
theorem broken_full {p : Prob} (hv : validP p = true) {j : Nat} (hj : j < p.rules.length) {c : List Int} (hc : c.length = p.opts.length) (hco : ∀ i, i < c.length → 0 ≤ nth c i ∧ nth c i < (nth p.opts i).length) : brokenB (nth p.rules j) c = !keepsB (nth p.rules j) c := by
  have hlen := valid_len hv
  cases hb : brokenB (nth p.rules j) c
  case true => rw [broken_sound hv hj hb hc hco (fun _ _ => rfl)]; rfl
  unfold brokenB at hb
  unfold keepsB
  rcases ruleOK_iff.1 (valid_rule hv hj) with ⟨hk, hr⟩ | ⟨hk, hr⟩
  · obtain ⟨h1, _, h3⟩ := cnt_at hr
    rw [if_neg (by omega), decide_eq_false_iff_not] at hb
    rw [if_neg (by omega)]
    have hm := most_full (r := nth p.rules j) (c := c) (fun i hi => by
      obtain ⟨a1, a2, _, a4⟩ := h3 i hi
      have hi2 : (nth (nth p.rules j).panes i).toNat < c.length := by omega
      have h5 := hco _ hi2
      exact ⟨hi2, h5.1, by rw [a4]; unfold chosenAt; omega⟩) _ (Nat.le_refl _)
    rw [hm.1, hm.2] at hb
    have : wi (hitsTo (nth p.rules j) c (nth p.rules j).panes.length) (nth p.rules j).lo (nth p.rules j).hi = true := wi_iff.2 (by omega)
    rw [this]; rfl
  · obtain ⟨_, _, _, _, h5, h6, _, h8, h9⟩ := pair_at hr
    rw [if_pos hk] at hb
    rw [if_pos hk]
    have hp : pairL (nth p.rules j) c = true := by simpa using hb
    unfold pairL at hp
    rw [decide_eq_true_iff] at hp
    obtain ⟨i, _, k, _, l1, l2, h⟩ := hp
    have q0 : paneAt (nth p.rules j) 0 < c.length := by unfold paneAt; omega
    have q1 : paneAt (nth p.rules j) 1 < c.length := by unfold paneAt; omega
    obtain rfl := (left_full q0 (hco _ q0).1).1 l1
    obtain rfl := (left_full q1 (hco _ q1).1).1 l2
    have e0 : chosenAt (nth p.rules j) c 0 = nth c (paneAt (nth p.rules j) 0) := rfl
    have e1 : chosenAt (nth p.rules j) c 1 = nth c (paneAt (nth p.rules j) 1) := rfl
    rw [e0, e1, h]; rfl
theorem twinO_none {p : Prob} {c : List Int} (h : twinO p c = none) {i : Nat} (hi : i < c.length - 1) : ¬ (0 < pieceAt p c i ∧ pieceAt p c i = pieceAt p c (c.length - 1)) := by
  have := List.find?_eq_none.1 h i (List.mem_range.2 hi)
  unfold twinTo at this
  simpa using this
/-- no piece twice, so far -/
def noTwin (p : Prob) (c : List Int) : Prop := ∀ i, i < c.length → ∀ k, k < i → ¬ (0 < pieceAt p c i ∧ pieceAt p c i = pieceAt p c k)
theorem noTwin_step {p : Prob} {c : List Int} {k : Nat} (h : noTwin p c) (h2 : twinO p (c ++ [(k : Int)]) = none) : noTwin p (c ++ [(k : Int)]) := by
  intro i hi j hj
  rw [List.length_append, List.length_singleton] at hi
  have e : ∀ i, i < c.length → pieceAt p (c ++ [(k : Int)]) i = pieceAt p c i := fun i hi => by unfold pieceAt; rw [nth_append_left hi]
  rcases Nat.lt_succ_iff_lt_or_eq.1 hi with h3 | rfl
  · rw [e i h3, e j (by omega)]; exact h i h3 j hj
  · have := twinO_none h2 (i := j) (by simp; omega)
    simp only [List.length_append, List.length_singleton, Nat.add_sub_cancel] at this
    rintro ⟨h4, h5⟩
    exact this ⟨by rw [← h5]; exact h4, h5.symm⟩
theorem brokenO_none {p : Prob} {c : List Int} (h : brokenO p c = none) {i : Nat} (hi : i < p.rules.length) : brokenB (nth p.rules i) c = false := by
  have := List.find?_eq_none.1 h i (List.mem_range.2 hi)
  simpa using this

theorem okL_map {p : Prob} {c : List Int} {g : Nat → Nd} : ∀ (n o : Nat), (∀ k, k < n → okN p (g k) (c ++ [((o + k : Nat) : Int)]) = true) → okL p ((List.range n).map g) c o = true
  | 0, _, _ => by simp [okL]
  | n + 1, o, h => by
    rw [List.range_succ_eq_map, List.map_cons, List.map_map, okL, Bool.and_eq_true]
    refine ⟨by have := h 0 (by omega); simpa using this, ?_⟩
    exact okL_map (g := g ∘ Nat.succ) n (o + 1) fun k hk => by
      have := h (k + 1) (by omega)
      rw [show o + (k + 1) = o + 1 + k by omega] at this
      exact this
/-- the tree that is made is lawful -/
theorem surv_ok {p : Prob} (hv : validP p = true) : ∀ (m : Nat) (c : List Int), c.length + m = p.opts.length → (∀ i, i < c.length → 0 ≤ nth c i ∧ nth c i < (nth p.opts i).length) → (∀ k, noTwin p (c.take k) ∨ c.length ≤ k) → okN p (surv p m c) c = true
  | m, c, h, hc, ht => by
    have hlen := valid_len hv
    cases h1 : twinO p c with
    | some i =>
      rw [surv_twin h1]
      have hm := List.mem_range.1 (List.mem_of_find?_eq_some h1)
      have hp := List.find?_some h1
      unfold twinTo at hp
      rw [decide_eq_true_iff] at hp
      simp only [okN, leafB]
      rw [if_neg (by decide), if_neg (by decide), if_pos trivial]
      simp only [List.length_nil, decide_true, Bool.true_and, Bool.and_eq_true, decide_eq_true_iff, wi_iff, Int.toNat_natCast]
      refine ⟨⟨by omega, by omega⟩, by rw [← hp.2]; exact hp.1, hp.2⟩
    | none =>
      have hnt : noTwin p c := by
        rcases List.eq_nil_or_concat c with rfl | ⟨c', x, rfl⟩
        · intro i hi; exact absurd hi (Nat.not_lt_zero _)
        · rw [List.concat_eq_append] at *
          have h0 := ht c'.length
          rw [List.take_left' rfl] at h0
          have hq : noTwin p c' := h0.resolve_right (by simp)
          obtain ⟨k, hk⟩ : ∃ k : Nat, x = (k : Int) := by
            have := (hc c'.length (by simp)).1
            rw [nth_snoc] at this
            exact ⟨x.toNat, by omega⟩
          subst hk
          exact noTwin_step hq h1
      cases h2 : brokenO p c with
      | some i =>
        rw [surv_rule h1 h2]
        have hm := List.mem_range.1 (List.mem_of_find?_eq_some h2)
        have hp := List.find?_some h2
        simp only [okN, leafB]
        rw [if_neg (by decide), if_neg (by decide), if_neg (by decide), if_pos trivial]
        simp only [List.length_nil, decide_true, Bool.true_and, Bool.and_eq_true, wi_iff, Int.toNat_natCast]
        exact ⟨by omega, hp⟩
      | none =>
        cases m with
        | zero =>
          rw [surv_leaf h1 h2]
          simp only [okN, leafB]
          rw [if_neg (by decide), if_pos trivial]
          simp only [List.length_nil, decide_true, Bool.true_and, Bool.and_eq_true, decide_eq_true_iff]
          refine ⟨⟨by omega, trivial⟩, ?_⟩
          rw [agreesB_rest fun i hi => by
            have h3 := brokenO_none h2 hi
            rw [broken_full hv hi (by omega) hc] at h3
            simpa using h3]
          exact soundB_yes hnt
        | succ m =>
          rw [surv_branch h1 h2]
          simp only [okN]
          rw [if_pos trivial, Bool.and_eq_true, decide_eq_true_iff]
          refine ⟨⟨trivial, by omega, survTo_len _ _ _ _⟩, okL_map _ _ fun k hk => ?_⟩
          rw [Nat.zero_add]
          refine surv_ok hv m (c ++ [(k : Int)]) (by simp; omega) (fun i hi => ?_) fun j => ?_
          · rw [List.length_append, List.length_singleton] at hi
            rcases Nat.lt_succ_iff_lt_or_eq.1 hi with h3 | rfl
            · rw [nth_append_left h3]; exact hc i h3
            · rw [nth_snoc]; omega
          · rcases Nat.lt_or_ge j (c.length + 1) with h3 | h3
            · rw [List.take_append_of_le_length (by omega)]
              rcases Nat.lt_or_ge j c.length with h4 | h4
              · exact .inl ((ht j).resolve_right (by omega))
              · rw [List.take_of_length_le h4]; exact .inl hnt
            · exact .inr (by simp; omega)
theorem survey_ok {p : Prob} (hv : validP p = true) : okN p (surv p p.opts.length []) [] = true :=
  surv_ok hv _ [] (by simp) (fun i hi => absurd hi (Nat.not_lt_zero _)) fun k => .inr (Nat.zero_le _)
end Go.Proofs.Ytmpkbolabdmkkaa

/- PARTS OF LISTS OF BOOLS, and what the first panes leave of them. -/
namespace Go.Proofs.Ytmpkbolabdmkkaa

def subB (l : List Bool) (a d : Nat) : List Bool := (l.drop a).take (d - a)
theorem subB_len {l : List Bool} {a d : Nat} (hd : d ≤ l.length) : (subB l a d).length = d - a := by simp [subB]; omega
theorem nth_subB {l : List Bool} {a d k : Nat} (hd : d ≤ l.length) (hk : k < d - a) : nth (subB l a d) k = nth l (a + k) := by
  rw [nth_eq _ _ (by rw [subB_len hd]; exact hk), nth_eq _ _ (show a + k < l.length by omega)]
  simp [subB]
theorem sub_contains {l : List Bool} {a d : Nat} (hd : d ≤ l.length) (b : Bool) : (subB l a d).contains b = true ↔ ∃ k, a ≤ k ∧ k < d ∧ nth l k = b := by
  rw [List.contains_iff_mem]
  constructor
  · intro h
    obtain ⟨i, hi, he⟩ := List.getElem_of_mem h
    rw [subB_len hd] at hi
    refine ⟨a + i, by omega, by omega, ?_⟩
    rw [← nth_subB hd hi, nth_eq _ _ (by rw [subB_len hd]; exact hi)]; exact he
  · rintro ⟨k, h1, h2, rfl⟩
    have hi : k - a < d - a := by omega
    have := nth_subB hd hi
    rw [show a + (k - a) = k by omega] at this
    rw [← this]
    exact nth_mem (by rw [subB_len hd]; exact hi)
/-- the bounds of what is left of a pane -/
def loN (c : List Int) (i : Nat) : Nat := if i < c.length then (nth c i).toNat else 0
def hiN (p : Prob) (c : List Int) (i : Nat) : Nat := if i < c.length then (nth c i).toNat + 1 else (nth p.opts i).length
theorem left_rng {p : Prob} {c : List Int} {i k : Nat} (h0 : i < c.length → 0 ≤ nth c i) (hk : k < (nth p.opts i).length) : leftB c i k = true ↔ loN c i ≤ k ∧ k < hiN p c i := by
  by_cases hi : i < c.length
  · rw [left_full hi (h0 hi)]
    unfold loN hiN; rw [if_pos hi, if_pos hi]; omega
  · unfold loN hiN leftB; rw [if_neg hi, if_neg hi]
    simp only [Bool.or_eq_true, decide_eq_true_iff]
    omega
theorem rng_bd {p : Prob} {c : List Int} {i : Nat} (h0 : i < c.length → 0 ≤ nth c i ∧ nth c i < (nth p.opts i).length) : loN c i ≤ hiN p c i ∧ hiN p c i ≤ (nth p.opts i).length := by
  unfold loN hiN
  by_cases hi : i < c.length
  · rw [if_pos hi, if_pos hi]; have := h0 hi; omega
  · rw [if_neg hi, if_neg hi]; omega
theorem rng_contains {p : Prob} {c : List Int} {i : Nat} {l : List Bool} (h0 : i < c.length → 0 ≤ nth c i ∧ nth c i < (nth p.opts i).length) (hl : l.length = (nth p.opts i).length) (b : Bool) :
    (subB l (loN c i) (hiN p c i)).contains b = decide (∃ k, k < l.length ∧ leftB c i k = true ∧ nth l k = b) := by
  have hb := rng_bd h0
  rw [Bool.eq_iff_iff, sub_contains (by omega), decide_eq_true_iff]
  constructor
  · rintro ⟨k, h1, h2, h3⟩
    exact ⟨k, by omega, (left_rng (fun h => (h0 h).1) (by omega)).2 ⟨h1, h2⟩, h3⟩
  · rintro ⟨k, h1, h2, h3⟩
    have := (left_rng (p := p) (fun h => (h0 h).1) (by omega)).1 h2
    exact ⟨k, this.1, this.2, h3⟩
/-- pairs: row by row -/
theorem pairL_yes {p : Prob} {r : Rl} {c : List Int} {i : Nat} (h0 : ∀ i, i < c.length → 0 ≤ nth c i ∧ nth c i < (nth p.opts i).length) (hl : r.ok.length = (nth p.opts (paneAt r 0)).length) (hl2 : ∀ i, i < r.ok.length → (nth r.ok i).length = (nth p.opts (paneAt r 1)).length)
    (hi1 : loN c (paneAt r 0) ≤ i) (hi2 : i < hiN p c (paneAt r 0)) (h : (subB (nth r.ok i) (loN c (paneAt r 1)) (hiN p c (paneAt r 1))).contains true = true) : pairL r c = true := by
  have hb := rng_bd (p := p) (h0 (paneAt r 0))
  have hi : i < r.ok.length := by omega
  rw [rng_contains (h0 _) (hl2 i hi), decide_eq_true_iff] at h
  obtain ⟨k, h1, h2, h3⟩ := h
  unfold pairL; rw [decide_eq_true_iff]
  exact ⟨i, hi, k, h1, (left_rng (p := p) (fun h => (h0 _ h).1) (by omega)).2 ⟨hi1, hi2⟩, h2, h3⟩
theorem pairL_no {p : Prob} {r : Rl} {c : List Int} (h0 : ∀ i, i < c.length → 0 ≤ nth c i ∧ nth c i < (nth p.opts i).length) (hl : r.ok.length = (nth p.opts (paneAt r 0)).length) (hl2 : ∀ i, i < r.ok.length → (nth r.ok i).length = (nth p.opts (paneAt r 1)).length)
    (h : ∀ i, loN c (paneAt r 0) ≤ i → i < hiN p c (paneAt r 0) → (subB (nth r.ok i) (loN c (paneAt r 1)) (hiN p c (paneAt r 1))).contains true = false) : pairL r c = false := by
  unfold pairL; rw [decide_eq_false_iff_not]
  rintro ⟨i, hi, k, h1, h2, h3, h4⟩
  have hr := (left_rng (p := p) (fun h => (h0 _ h).1) (by omega)).1 h2
  have := h i hr.1 hr.2
  rw [rng_contains (h0 _) (hl2 i hi), decide_eq_false_iff_not] at this
  exact this ⟨k, h1, h3, h4⟩
theorem hitL_sub {p : Prob} {r : Rl} {c : List Int} {i : Nat} (h0 : ∀ i, i < c.length → 0 ≤ nth c i ∧ nth c i < (nth p.opts i).length) (hl : (nth r.hits i).length = (nth p.opts (paneAt r i)).length) : (subB (nth r.hits i) (loN c (paneAt r i)) (hiN p c (paneAt r i))).contains true = hitL r c i := by
  rw [rng_contains (h0 _) hl]; rfl
theorem missL_sub {p : Prob} {r : Rl} {c : List Int} {i : Nat} (h0 : ∀ i, i < c.length → 0 ≤ nth c i ∧ nth c i < (nth p.opts i).length) (hl : (nth r.hits i).length = (nth p.opts (paneAt r i)).length) : (subB (nth r.hits i) (loN c (paneAt r i)) (hiN p c (paneAt r i))).contains false = missL r c i := by
  rw [rng_contains (h0 _) hl]; rfl
end Go.Proofs.Ytmpkbolabdmkkaa

/- WHAT A TREE TELLS, kid by kid, in plain Lean. -/
namespace Go.Proofs.Ytmpkbolabdmkkaa

theorem nth_cons_succ {α : Type} [Inhabited α] (x : α) (l : List α) (i : Nat) : nth (x :: l) (i + 1) = nth l i := by simp [nth]
theorem okL_iff {p : Prob} {c : List Int} : ∀ (ks : List Nd) (o : Nat), okL p ks c o = true ↔ ∀ i, i < ks.length → okN p (nth ks i) (c ++ [((o + i : Nat) : Int)]) = true
  | [], o => by simp [okL]
  | n :: ks, o => by
    rw [okL, Bool.and_eq_true, okL_iff ks (o + 1)]
    constructor
    · rintro ⟨h0, h1⟩ i hi
      cases i with
      | zero => exact h0
      | succ i =>
        rw [nth_cons_succ, show o + (i + 1) = o + 1 + i by omega]
        exact h1 i (by simpa using hi)
    · intro h
      refine ⟨h 0 (by simp), fun i hi => ?_⟩
      have := h (i + 1) (by simpa using hi)
      rwa [nth_cons_succ, show o + (i + 1) = o + 1 + i by omega] at this
/-- the fillings that the first j kids tell -/
def agTo (ks : List Nd) (c : List Int) (j : Nat) : List (List Int) := (List.range j).flatMap fun i => agN (nth ks i) (c ++ [((i : Nat) : Int)])
theorem agTo_succ (ks : List Nd) (c : List Int) (j : Nat) : agTo ks c (j + 1) = agTo ks c j ++ agN (nth ks j) (c ++ [(j : Int)]) := by simp [agTo, List.range_succ]
theorem agL_range {c : List Int} : ∀ (ks : List Nd) (o : Nat), agL ks c o = (List.range ks.length).flatMap fun i => agN (nth ks i) (c ++ [((o + i : Nat) : Int)])
  | [], o => by simp [agL]
  | n :: ks, o => by
    rw [agL, agL_range ks (o + 1), List.length_cons, List.range_succ_eq_map, List.flatMap_cons, List.flatMap_map]
    congr 1
    congr 1
    funext i
    rw [Nat.succ_eq_add_one, nth_cons_succ, show o + (i + 1) = o + 1 + i by omega]
theorem agTo_all (ks : List Nd) (c : List Int) : agL ks c 0 = agTo ks c ks.length := by
  rw [agL_range]; unfold agTo; simp only [Nat.zero_add]
def szTo (ks : List Nd) : Nat → Nat
  | 0 => 0
  | j + 1 => szTo ks j + szN (nth ks j)
theorem szTo_cons (n : Nd) (ks : List Nd) : ∀ j, szTo (n :: ks) (j + 1) = szN n + szTo ks j
  | 0 => by simp [szTo, nth]
  | j + 1 => by
    rw [szTo, szTo_cons n ks j, nth_cons_succ]
    show _ = szN n + (szTo ks j + szN (nth ks j))
    omega
theorem szTo_all : ∀ ks : List Nd, szL ks = szTo ks ks.length
  | [] => rfl
  | n :: ks => by rw [szL, szTo_all ks, List.length_cons, szTo_cons]
theorem szTo_mono (ks : List Nd) : ∀ j k, j ≤ k → szTo ks j ≤ szTo ks k
  | j, 0, h => by obtain rfl : j = 0 := by omega
                  exact Nat.le_refl _
  | j, k + 1, h => by
    rcases Nat.lt_or_ge k j with h1 | h1
    · obtain rfl : j = k + 1 := by omega
      exact Nat.le_refl _
    · have := szTo_mono ks j k h1
      show _ ≤ szTo ks k + _
      omega
mutual
theorem agN_len : ∀ (n : Nd) (c : List Int), (agN n c).length ≤ szN n
  | .mk kd ix ks, c => by
    rw [agN, szN]
    split
    · have := agL_len ks c 0; omega
    · split <;> simp
theorem agL_len : ∀ (ks : List Nd) (c : List Int) (o : Nat), (agL ks c o).length ≤ szL ks
  | [], _, _ => by simp [agL]
  | n :: ks, c, o => by
    rw [agL, szL, List.length_append]
    have := agN_len n (c ++ [(o : Int)])
    have := agL_len ks c (o + 1)
    omega
end
theorem agTo_len (ks : List Nd) (c : List Int) : ∀ j, (agTo ks c j).length ≤ szTo ks j
  | 0 => by simp [agTo]
  | j + 1 => by
    rw [agTo_succ, List.length_append]
    have := agTo_len ks c j
    have := agN_len (nth ks j) (c ++ [(j : Int)])
    show _ ≤ szTo ks j + _
    omega
theorem okN_branch {p : Prob} {ix : Int} {ks : List Nd} {c : List Int} : okN p (.mk 1 ix ks) c = (decide (ix = c.length ∧ c.length < p.panes.length ∧ ks.length = (nth p.opts c.length).length) && okL p ks c 0) := by
  rw [okN, if_pos rfl]
theorem okN_leaf {p : Prob} {kd ix : Int} {ks : List Nd} {c : List Int} (h : kd ≠ 1) : okN p (.mk kd ix ks) c = (decide (ks.length = 0) && leafB p kd ix c) := by
  rw [okN, if_neg h]
theorem agN_branch {ix : Int} {ks : List Nd} {c : List Int} : agN (.mk 1 ix ks) c = agTo ks c ks.length := by
  rw [agN, if_pos rfl, agTo_all]
theorem agN_leaf {kd ix : Int} {ks : List Nd} {c : List Int} (h : kd ≠ 1) : agN (.mk kd ix ks) c = if kd = 2 then [c] else [] := by
  rw [agN, if_neg h]
end Go.Proofs.Ytmpkbolabdmkkaa
