/- BITS of numbers below 65536: and, or, and-not on int; the number of ones. -/
import Derived.Test.YtmpkbolabdmkkaaZi
namespace Go.Proofs.Ytmpkbolabdmkkaa
open Go.RowKit

theorem i64_and_nat (a b : Nat) (ha : a < 9223372036854775808) (hb : b < 9223372036854775808) : bits .and .i64 (a : Int) (b : Int) = ((a &&& b : Nat) : Int) := by
  have hx : a &&& b ≤ a := Nat.and_le_left
  show IntKind.i64.wrap ((BitVec.ofInt 64 (a : Int) &&& BitVec.ofInt 64 (b : Int)).toNat : Int) = _
  rw [BitVec.toNat_and, ofInt_u64 a (by omega), ofInt_u64 b (by omega), IntKind.wrap_i64]
  omega
theorem i64_or_nat (a b : Nat) (ha : a < 9223372036854775808) (hb : b < 9223372036854775808) : bits .or .i64 (a : Int) (b : Int) = ((a ||| b : Nat) : Int) := by
  have hx : a ||| b < 2 ^ 63 := Nat.or_lt_two_pow (by omega) (by omega)
  show IntKind.i64.wrap ((BitVec.ofInt 64 (a : Int) ||| BitVec.ofInt 64 (b : Int)).toNat : Int) = _
  rw [BitVec.toNat_or, ofInt_u64 a (by omega), ofInt_u64 b (by omega), IntKind.wrap_i64]
  omega
theorem i64_andNot_nat (a b : Nat) (ha : a < 9223372036854775808) (hb : b < 9223372036854775808) : bits .andNot .i64 (a : Int) (b : Int) = ((a &&& (18446744073709551615 - b) : Nat) : Int) := by
  have hx : a &&& (18446744073709551615 - b) ≤ a := Nat.and_le_left
  show IntKind.i64.wrap ((BitVec.ofInt 64 (a : Int) &&& ~~~BitVec.ofInt 64 (b : Int)).toNat : Int) = _
  rw [BitVec.toNat_and, BitVec.toNat_not, ofInt_u64 a (by omega), ofInt_u64 b (by omega), IntKind.wrap_i64]
  have e : 2 ^ 64 - 1 - b = 18446744073709551615 - b := by omega
  rw [e]
  omega

theorem testBit_not (a b j : Nat) (hb : b < 2 ^ 64) : (a &&& (18446744073709551615 - b)).testBit j = (a.testBit j && (decide (j < 64) && !b.testBit j)) := by
  rw [Nat.testBit_and]
  have e : 18446744073709551615 - b = 2 ^ 64 - (b + 1) := by omega
  rw [e, Nat.testBit_two_pow_sub_succ hb]
/-- all n ones without those of b -/
theorem full_not {n b : Nat} (hn : n ≤ 16) (hb : b < 2 ^ n) : (2 ^ n - 1) &&& (18446744073709551615 - b) = 2 ^ n - 1 - b := by
  have hp : 2 ^ n ≤ 2 ^ 16 := Nat.pow_le_pow_right (by decide) hn
  apply Nat.eq_of_testBit_eq
  intro j
  rw [testBit_not _ _ _ (by omega), Nat.testBit_two_pow_sub_one]
  have e : 2 ^ n - 1 - b = 2 ^ n - (b + 1) := by omega
  rw [e, Nat.testBit_two_pow_sub_succ hb]
  by_cases h : j < n
  · simp [h, show j < 64 by omega]
  · simp [h]
theorem nat_add_or {a b : Nat} (ha : a < 18446744073709551616) (hb : b < 18446744073709551616) (h : a &&& b = 0) : a + b = a ||| b := by
  have hx : (BitVec.ofNat 64 a).toNat = a := by rw [BitVec.toNat_ofNat]; exact Nat.mod_eq_of_lt (by omega)
  have hy : (BitVec.ofNat 64 b).toNat = b := by rw [BitVec.toNat_ofNat]; exact Nat.mod_eq_of_lt (by omega)
  have h0 : BitVec.ofNat 64 a &&& BitVec.ofNat 64 b = 0#64 := by
    apply BitVec.eq_of_toNat_eq; rw [BitVec.toNat_and, hx, hy, h]; rfl
  have h1 := BitVec.toNat_add_of_and_eq_zero h0
  have h2 := BitVec.add_eq_or_of_and_eq_zero _ _ h0
  rw [hx, hy] at h1
  rw [← h1, h2, BitVec.toNat_or, hx, hy]
/-- without one bit that is there -/
theorem bit_not {s k : Nat} (hs : s < 65536) (h : s.testBit k = true) : s &&& (18446744073709551615 - 2 ^ k) = s - 2 ^ k ∧ 2 ^ k ≤ s := by
  have hle : 2 ^ k ≤ s := Nat.ge_two_pow_of_testBit h
  refine ⟨?_, hle⟩
  have hk : k < 64 := by
    rcases Nat.lt_or_ge k 64 with h1 | h1
    · exact h1
    · have := Nat.pow_le_pow_right (show 0 < 2 by decide) h1; omega
  have h1 : (s &&& (18446744073709551615 - 2 ^ k)) ||| 2 ^ k = s := by
    apply Nat.eq_of_testBit_eq
    intro j
    rw [Nat.testBit_or, testBit_not _ _ _ (by omega), Nat.testBit_two_pow]
    by_cases hj : k = j
    · subst hj; simp [h]
    · by_cases h64 : j < 64
      · simp [hj, h64]
      · have : s.testBit j = false := Nat.testBit_lt_two_pow (Nat.lt_of_lt_of_le (show s < 2 ^ 16 by omega) (Nat.pow_le_pow_right (by decide) (by omega)))
        simp [this, hj]
  have h0 : (s &&& (18446744073709551615 - 2 ^ k)) &&& 2 ^ k = 0 := by
    apply Nat.eq_of_testBit_eq
    intro j
    rw [Nat.testBit_and, testBit_not _ _ _ (by omega), Nat.testBit_two_pow]
    by_cases hj : k = j
    · subst hj; simp
    · simp [hj]
  have h3 : s &&& (18446744073709551615 - 2 ^ k) ≤ s := Nat.and_le_left
  have h2 := nat_add_or (by omega) (by omega) h0
  rw [h1] at h2
  omega

/-- how many of the first n bits are ones -/
def cnt (n x : Nat) : Nat := ((List.range n).filter fun k => x.testBit k).length
theorem cnt_succ (n x : Nat) : cnt (n + 1) x = cnt n x + if x.testBit n = true then 1 else 0 := by
  unfold cnt; rw [List.range_succ, List.filter_append, List.length_append]
  congr 1
  cases h : x.testBit n <;> simp [h]
theorem cnt_congr {x y : Nat} : ∀ n, (∀ k, k < n → x.testBit k = y.testBit k) → cnt n x = cnt n y
  | 0, _ => rfl
  | n + 1, h => by rw [cnt_succ, cnt_succ, cnt_congr n (fun k hk => h k (by omega)), h n (by omega)]
theorem cnt_more {x n : Nat} (hx : x < 2 ^ n) : ∀ m, cnt (n + m) x = cnt n x
  | 0 => rfl
  | m + 1 => by
    rw [← Nat.add_assoc, cnt_succ, cnt_more hx m, Nat.testBit_lt_two_pow (Nat.lt_of_lt_of_le hx (Nat.pow_le_pow_right (by decide) (Nat.le_add_right n m)))]; rfl
theorem cnt_le (n x : Nat) : cnt n x ≤ n := by
  unfold cnt; exact Nat.le_trans (List.length_filter_le _ _) (by simp)

/-- what the library reckons -/
def ones64 (x : Nat) : Nat :=
  let y1 := (x / 2 &&& 6148914691236517205) + (x &&& 6148914691236517205)
  let y2 := (y1 / 4 &&& 3689348814741910323) + (y1 &&& 3689348814741910323)
  let y3 := (y2 / 16 + y2) &&& 1085102592571150095
  let y4 := y3 / 256 + y3
  let y5 := y4 / 65536 + y4
  let y6 := y5 / 4294967296 + y5
  y6 % 128
def chk : Nat → Nat → Nat → Bool
  | 0, x, c => ones64 x == c
  | d + 1, x, c => chk d (2 * x) c && chk d (2 * x + 1) (c + 1)
theorem chk_all : chk 16 0 0 = true := by kernel_rfl
theorem chk_spec : ∀ d x c, chk d x c = true → ∀ y, y < 2 ^ d → ones64 (2 ^ d * x + y) = c + cnt d y
  | 0, x, c, h, y, hy => by
    obtain rfl : y = 0 := by omega
    have : ones64 x = c := by simpa [chk] using h
    simpa [cnt] using this
  | d + 1, x, c, h, y, hy => by
    unfold chk at h
    rw [Bool.and_eq_true] at h
    by_cases hlt : y < 2 ^ d
    · have h1 := chk_spec d (2 * x) c h.1 y hlt
      rw [cnt_succ, Nat.testBit_lt_two_pow hlt, show 2 ^ (d + 1) * x + y = 2 ^ d * (2 * x) + y by rw [Nat.pow_succ, Nat.mul_assoc], h1]; simp
    · obtain ⟨z, rfl⟩ : ∃ z, y = 2 ^ d + z := ⟨y - 2 ^ d, by omega⟩
      have hz : z < 2 ^ d := by rw [Nat.pow_succ] at hy; omega
      have h1 := chk_spec d (2 * x + 1) (c + 1) h.2 z hz
      rw [cnt_succ, Nat.testBit_two_pow_add_eq, Nat.testBit_lt_two_pow hz, show 2 ^ (d + 1) * x + (2 ^ d + z) = 2 ^ d * (2 * x + 1) + z by rw [Nat.pow_succ, Nat.mul_assoc, Nat.mul_add, Nat.mul_one]; omega, h1,
        cnt_congr (y := z) d (fun k hk => Nat.testBit_two_pow_add_gt hk z)]
      simp; omega
theorem ones_cnt {x n : Nat} (hn : n ≤ 16) (hx : x < 2 ^ n) : ones64 x = cnt n x := by
  have h16 : x < 2 ^ 16 := Nat.lt_of_lt_of_le hx (Nat.pow_le_pow_right (by decide) hn)
  have h1 := chk_spec 16 0 0 chk_all x h16
  rw [Nat.mul_zero, Nat.zero_add, Nat.zero_add] at h1
  rw [h1, ← cnt_more hx (16 - n), show n + (16 - n) = 16 by omega]
end Go.Proofs.Ytmpkbolabdmkkaa
