/- CONTRACTS of the reference's SameInts, SameTables. -/
import Derived.Test.YtmpkbolabdmkkaaBas2
import Derived.Test.YtmpkbolabdmkkaaRefA
namespace Go.Proofs.Ytmpkbolabdmkkaa
open Go.RowKit

theorem dec_no {α : Type} [DecidableEq α] {a b : α} (h : a ≠ b) : decide (a = b) = false := by simpa using h
theorem dec_yes {α : Type} [DecidableEq α] {a b : α} (h : a = b) : decide (a = b) = true := by simpa using h
theorem ne_bneB {a b : Bool} (h : (!a == b) = true) : a ≠ b := by cases a <;> cases b <;> simp_all
theorem eq_bneB {a b : Bool} (h : (!a == b) = false) : a = b := by cases a <;> cases b <;> simp_all

set_option maxRecDepth 100000 in
set_option maxHeartbeats 1000000 in
theorem rSameInts {W : World} (x : Later W) (va vb : Value) (a b : List Int) (ha : IsInts W va a) (hb : IsInts W vb b) :
    Calls Try.prog 20 #[va, vb] x.w (Ends W (.bool (decide (a = b)))) := by
  obtain ⟨aa, ca, rfl, la, hA⟩ := ha.opened
  obtain ⟨ab, cb, rfl, lb, hB⟩ := hb.opened
  clear ha hb
  go_enter Try.func20, Try.ntmps20
  by_cases hl : a.length = b.length
  case neg =>
    have hno : Hid (decide (a = b) = false) := Lib.hid (dec_no (fun h => hl (by rw [h])))
    have hl' : ((a.length : Int) != b.length) = true := by simp; omega
    clear hl
    go_wp2
    go_ret; exact ⟨ret_bool hno.out.symm, x, rfl⟩
  have hl' : ((a.length : Int) != b.length) = false := by simp; omega
  replace hl := Lib.hid hl
  go_wp2
  go_loopw [5] (fun i wr => ∃ k : Nat, k ≤ a.length ∧ i = .int .i64 k ∧ (∃ y : Later W, wr = y.w) ∧ (∀ i, i < k → nth a i = nth b i)) (fun i _ => a.length - (intOf i).toNat)
  case atStart => exact ⟨0, Nat.zero_le _, rfl, ⟨x, rfl⟩, by omega⟩
  case round =>
    obtain ⟨k, hk, rfl, ⟨x, rfl⟩, hin⟩ := hrel
    replace hin := Lib.hid hin
    by_cases hlt : k < a.length
    · have hltb : k < b.length := by have := hl.out; omega
      obtain ⟨b1, o1, rfl, hb1, c1⟩ := hA.out k hlt
      obtain ⟨b2, o2, rfl, hb2, c2⟩ := hB.out k hltb
      go_wp2
      refine wp_region_later x (by kernel_rfl) (by kernel_rfl) ?_
      repeat (go_big_quiet_step (fail))
      refine wpQuiet_nil ?_
      rintro _ ⟨x, rfl⟩
      go_wp2
      · go_ret; exact ⟨ret_bool (dec_no (fun h => ne_bneI (by assumption) (by rw [h]))).symm, x, rfl⟩
      · go_roundw
        case rel => exact ⟨k + 1, by omega, by go_num, ⟨x, rfl⟩, all_step hin.out (eq_bneI (by assumption))⟩
        case measure => simp [intOf]; omega
    · obtain rfl : k = a.length := by omega
      go_wp2
      go_ret; exact ⟨ret_bool (dec_yes (ext_nth hl.out hin.out)).symm, x, rfl⟩

set_option maxRecDepth 100000 in
set_option maxHeartbeats 1000000 in
theorem rSameTables {W : World} (x : Later W) (va vb : Value) (a b : List (List Bool)) (ha : IsBoolss W va a) (hb : IsBoolss W vb b) :
    Calls Try.prog 45 #[va, vb] x.w (Ends W (.bool (decide (a = b)))) := by
  obtain ⟨aa, ca, rfl, la, hA⟩ := ha.opened
  obtain ⟨ab, cb, rfl, lb, hB⟩ := hb.opened
  clear ha hb
  go_enter Try.func45, Try.ntmps45
  by_cases hl : a.length = b.length
  case neg =>
    have hno : Hid (decide (a = b) = false) := Lib.hid (dec_no (fun h => hl (by rw [h])))
    have hl' : ((a.length : Int) != b.length) = true := by simp; omega
    clear hl
    go_wp2
    go_ret; exact ⟨ret_bool hno.out.symm, x, rfl⟩
  have hl' : ((a.length : Int) != b.length) = false := by simp; omega
  replace hl := Lib.hid hl
  go_wp2
  go_loopw [5, 6] (fun i _ wr => ∃ k : Nat, k ≤ a.length ∧ i = .int .i64 k ∧ (∃ y : Later W, wr = y.w) ∧ (∀ i, i < k → nth a i = nth b i)) (fun i _ _ => a.length - (intOf i).toNat)
  case atStart => exact ⟨0, Nat.zero_le _, rfl, ⟨x, rfl⟩, by omega⟩
  case round =>
    obtain ⟨k, hk, rfl, ⟨x, rfl⟩, hin⟩ := hrel
    replace hin := Lib.hid hin
    by_cases hlt : k < a.length
    · have hltb : k < b.length := by have := hl.out; omega
      obtain ⟨b1, o1, rfl, hb1, u1, c1, hU1⟩ := hA.out k hlt
      obtain ⟨b2, o2, rfl, hb2, u2, c2, hU2⟩ := hB.out k hltb
      obtain ⟨a3, c3, rfl, l3, h3⟩ := hU1.opened
      obtain ⟨a4, c4, rfl, l4, h4⟩ := hU2.opened
      go_wp2
      refine wp_region_later x (by kernel_rfl) (by kernel_rfl) ?_
      repeat (go_big_quiet_step (fail))
      refine wpQuiet_nil ?_
      rintro _ ⟨x, rfl⟩
      go_wp2
      · go_ret; exact ⟨ret_bool (dec_no (fun h => ne_bne (by assumption) (by rw [h]))).symm, x, rfl⟩
      · have hrl : Hid ((nth a k).length = (nth b k).length) := Lib.hid (eq_bne (by assumption))
        go_loopw [6] (fun i wr => ∃ m : Nat, m ≤ (nth a k).length ∧ i = .int .i64 m ∧ (∃ y : Later W, wr = y.w) ∧ (∀ i, i < m → nth (nth a k) i = nth (nth b k) i)) (fun i _ => (nth a k).length - (intOf i).toNat)
        case atStart => exact ⟨0, Nat.zero_le _, rfl, ⟨x, rfl⟩, by omega⟩
        case round =>
          obtain ⟨m, hm, rfl, ⟨x, rfl⟩, hin2⟩ := hrel
          replace hin2 := Lib.hid hin2
          by_cases hlt' : m < (nth a k).length
          · have hltb' : m < (nth b k).length := by have := hrl.out; omega
            obtain ⟨b5, o5, rfl, hb5, c5⟩ := h3.out m hlt'
            obtain ⟨b6, o6, rfl, hb6, c6⟩ := h4.out m hltb'
            go_wp2
            refine wp_region_later x (by kernel_rfl) (by kernel_rfl) ?_
            repeat (go_big_quiet_step (fail))
            refine wpQuiet_nil ?_
            rintro _ ⟨x, rfl⟩
            go_wp2
            · go_ret; exact ⟨ret_bool (dec_no (fun h => ne_bneB (by assumption) (by rw [h]))).symm, x, rfl⟩
            · go_roundw
              case rel => exact ⟨m + 1, by omega, by go_num, ⟨x, rfl⟩, all_step hin2.out (eq_bneB (by assumption))⟩
              case measure => simp [intOf]; omega
          · obtain rfl : m = (nth a k).length := by omega
            go_wp2
            go_roundw
            case rel => exact ⟨k + 1, by omega, by go_num, ⟨x, rfl⟩, all_step hin.out (ext_nth hrl.out hin2.out)⟩
            case measure => simp [intOf]; omega
    · obtain rfl : k = a.length := by omega
      go_wp2
      go_ret; exact ⟨ret_bool (dec_yes (ext_nth hl.out hin.out)).symm, x, rfl⟩
end Go.Proofs.Ytmpkbolabdmkkaa
