/- CONTRACTS of places' check of a rule. -/
import Derived.Test.YtmpkbolabdmkkaaPlB
namespace Go.Proofs.Ytmpkbolabdmkkaa
open Go.RowKit

set_option maxHeartbeats 400000 in
theorem pknown {W : World} (x : Later W) (i : Int) (b : Nat) (a : Option Addr) (n c : Nat) (hn : n ≤ 17592186044416) (h : ∀ y : Later W, y.w.cell? ⟨b, 0, none⟩ = some (.slice a n c)) :
    Calls Try.prog 139 #[.int .i64 i, .pointer (some ⟨b, 0, none⟩)] x.w fun e w' => e = .returned (.bool (wi i 0 ((n : Int) - 1))) ∧ x.w = w' := by
  go_enter Try.func139, Try.ntmps139
  go_wp2_with (go_at_call 94; refine (pwithin _ _ _ _).mono ?_; rintro e w' ⟨rfl, rfl⟩)
  go_ret; exact ⟨rfl, rfl⟩

set_option maxHeartbeats 400000 in
theorem pother {W : World} (x : Later W) (u : Value) (l : List Bool) (b : Nat) (n : Nat) (hu : IsBools W u l) (h : ∀ y : Later W, y.w.cell? ⟨b, 0, none⟩ = some (.int .i64 n)) :
    Calls Try.prog 141 #[u, .pointer (some ⟨b, 0, none⟩)] x.w fun e w' => e = .returned (.bool ((l.length : Int) != (n : Int))) ∧ x.w = w' := by
  obtain ⟨a, c, rfl, ll, _⟩ := hu.opened
  go_enter Try.func141, Try.ntmps141
  go_wp2
  go_ret; exact ⟨rfl, rfl⟩
/-- some list is not n long -/
def offB (l : List (List Bool)) (n : Nat) : Bool := decide (∃ i, i < l.length ∧ (nth l i).length ≠ n)
theorem offB_yes {l : List (List Bool)} {n i : Nat} (hi : i < l.length) (h : (nth l i).length ≠ n) : offB l n = true := by unfold offB; rw [decide_eq_true_iff]; exact ⟨i, hi, h⟩
theorem offB_no {l : List (List Bool)} {n : Nat} (h : ∀ i, i < l.length → (nth l i).length = n) : offB l n = false := by
  unfold offB; rw [decide_eq_false_iff_not]; rintro ⟨i, hi, h'⟩; exact h' (h i hi)

set_option maxHeartbeats 1000000 in
theorem pindexOff {W : World} (x : Later W) (v : Value) (l : List (List Bool)) (b : Nat) (n : Nat) (hv : IsBoolss W v l) (h : ∀ y : Later W, y.w.cell? ⟨b, 0, none⟩ = some (.int .i64 n)) :
    Calls Try.prog 165 #[v, .func (.func 141) #[] #[.pointer (some ⟨b, 0, none⟩)]] x.w fun e w' => ∃ j : Int, e = .returned (.int .i64 j) ∧ decide (0 ≤ j) = offB l n ∧ ∃ y : Later W, w' = y.w := by
  obtain ⟨a, c, rfl, ll, hv⟩ := hv.opened
  have hno := Lib.hid (@offB_no l n)
  go_enter Try.func165, Try.ntmps165
  go_wp2
  go_loopw [8] (fun i wr => ∃ k : Nat, k ≤ l.length ∧ i = .int .i64 k ∧ (∃ y : Later W, wr = y.w) ∧ (∀ i, i < k → (nth l i).length = n)) (fun i _ => l.length - (intOf i).toNat)
  case atStart => exact ⟨0, Nat.zero_le _, rfl, ⟨x, rfl⟩, by omega⟩
  case round =>
    obtain ⟨k, hk, rfl, ⟨x, rfl⟩, hz⟩ := hrel
    replace hz := Lib.hid hz
    by_cases hlt : k < l.length
    · have hyes := Lib.hid (@offB_yes l n k hlt)
      obtain ⟨bk, ok, rfl, hbk, u, c0, hU⟩ := hv.out k hlt
      cases hA : ((nth l k).length : Int) != (n : Int)
      · go_wp2_with (go_at_call 141; refine (pother x _ _ _ n hU h).mono ?_; rintro e w' ⟨rfl, rfl⟩)
        go_roundw
        case rel => exact ⟨k + 1, by omega, by go_num, ⟨x, rfl⟩, all_step hz.out (eq_bne hA)⟩
        case measure => simp [intOf]; omega
      · go_wp2_with (go_at_call 141; refine (pother x _ _ _ n hU h).mono ?_; rintro e w' ⟨rfl, rfl⟩)
        go_ret
        exact ⟨_, rfl, by rw [hyes.out (ne_bne hA)]; simp, x, rfl⟩
    · obtain rfl : k = l.length := by omega
      go_wp2
      go_ret
      exact ⟨_, rfl, by rw [hno.out hz.out]; rfl, x, rfl⟩

set_option maxHeartbeats 1000000 in
theorem phasOff {W : World} (x : Later W) (v : Value) (l : List (List Bool)) (b : Nat) (n : Nat) (hv : IsBoolss W v l) (h : ∀ y : Later W, y.w.cell? ⟨b, 0, none⟩ = some (.int .i64 n)) :
    Calls Try.prog 140 #[v, .func (.func 141) #[] #[.pointer (some ⟨b, 0, none⟩)]] x.w (Ends W (.bool (offB l n))) := by
  go_enter Try.func140, Try.ntmps140
  go_wp2_with (go_at_call 165; refine (pindexOff x _ _ _ n hv h).mono ?_; rintro e w' ⟨j, rfl, hj, x, rfl⟩; replace hj := Lib.hid hj)
  go_ret; exact ⟨ret_bool hj.out, x, rfl⟩
end Go.Proofs.Ytmpkbolabdmkkaa
