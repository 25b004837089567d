/- CONTRACT of the reference's bitsOf. -/
import Derived.Test.YtmpkbolabdmkkaaZRoD
namespace Go.Proofs.Ytmpkbolabdmkkaa
open Go.RowKit

/-- the number whose bits tell which of the first k items a list has -/
def bitsTo (its l : List Int) : Nat → Nat
  | 0 => 0
  | k + 1 => if hasI l (nth its k) = true then bitsTo its l k + 2 ^ k else bitsTo its l k
theorem bitsTo_lt (its l : List Int) : ∀ k, bitsTo its l k < 2 ^ k
  | 0 => by simp [bitsTo]
  | k + 1 => by have := bitsTo_lt its l k; unfold bitsTo; rw [Nat.pow_succ]; split <;> omega

set_option maxRecDepth 100000 in
set_option maxHeartbeats 1000000 in
theorem rbitsOf {W : World} (x : Later W) (vi v : Value) (its l : List Int) (hi : IsInts W vi its) (h : IsInts W v l) (h16 : its.length ≤ 16) : Calls Try.prog 131 #[vi, v] x.w (Ends W (.int .i64 (bitsTo its l its.length))) := by
  have hH := Lib.hid (fun (y : Later W) (a : Int) => rhas y v l a h)
  obtain ⟨A, c, rfl, _, _⟩ := h
  obtain ⟨Ai, ci, rfl, ll, hI⟩ := hi.opened
  clear hi
  go_enter Try.func131, Try.ntmps131
  go_wp2
  go_loopw [5, 6] (fun nv i wr => ∃ k : Nat, k ≤ its.length ∧ i = .int .i64 k ∧ nv = .int .i64 (bitsTo its l k) ∧ ∃ y : Later W, wr = y.w) (fun _ i _ => its.length - (intOf i).toNat)
  case atStart => exact ⟨0, Nat.zero_le _, rfl, rfl, x, rfl⟩
  case round =>
    clear x
    obtain ⟨k, hk, rfl, rfl, x, rfl⟩ := hrel
    by_cases hlt : k < its.length
    · obtain ⟨bk, o, rfl, hbk, c0⟩ := hI.out k hlt
      have HS : Hid (bitsTo its l (k + 1) = if hasI l (nth its k) = true then bitsTo its l k + 2 ^ k else bitsTo its l k) := Lib.hid rfl
      have hlt2 := bitsTo_lt its l k
      have hp16 : 2 ^ k ≤ 65536 := by have : 2 ^ k ≤ 2 ^ 16 := Nat.pow_le_pow_right (by decide) (by omega); omega
      obtain ⟨K, hK⟩ : ∃ K, 2 ^ k = K := ⟨_, rfl⟩
      have hpow : (2 : Int) ^ k = (K : Int) := by rw [← hK]; simp
      rw [hK] at HS hlt2 hp16
      replace hK := Lib.hid hK
      have hC := Lib.hid (hH.out x (nth its k))
      cases hA : hasI l (nth its k) <;> rw [hA] at hC HS
      · go_wp2_with (go_at_call 77; refine hC.out.mono ?_; rintro e w' ⟨rfl, x, rfl⟩)
        go_roundw
        case rel => exact ⟨k + 1, by omega, by go_num, by rw [HS.out]; simp, x, rfl⟩
        case measure => simp [intOf]; omega
      · go_wp2_with (go_at_call 77; refine hC.out.mono ?_; rintro e w' ⟨rfl, x, rfl⟩)
        go_roundw
        case rel => exact ⟨k + 1, by omega, by go_num, by rw [HS.out]; simp, x, rfl⟩
        case measure => simp [intOf]; omega
    · obtain rfl : k = its.length := by omega
      go_wp2
      go_ret; exact ⟨rfl, x, rfl⟩
end Go.Proofs.Ytmpkbolabdmkkaa
