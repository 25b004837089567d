/- CONTRACTS of the reference's chosen and smaller. -/
import Derived.Test.YtmpkbolabdmkkaaZRoA
import Derived.Test.YtmpkbolabdmkkaaZd
namespace Go.Proofs.Ytmpkbolabdmkkaa
open Go.RowKit

set_option maxRecDepth 100000 in
set_option maxHeartbeats 1000000 in
theorem rchosen {W : World} (x : Later W) (v : Value) (its : List Int) (s : Nat) (hs : s < 65536) (h : IsInts W v its) (h16 : its.length ≤ 16) : Calls Try.prog 160 #[v, .int .i64 s] x.w (EndsInts W (listed its s)) := by
  obtain ⟨A, c, rfl, ll, hI⟩ := h.opened
  clear h
  go_enter Try.func160, Try.ntmps160
  go_wp2
  go_loopw [5, 6] (fun out i wr => ∃ k : Nat, k ≤ its.length ∧ i = .int .i64 k ∧ ∃ y : Later W, wr = y.w ∧ y.w.ownsRow W.heap.size 3 1 out (listedTo its s k).length ((listedTo its s k).map (Value.int .i64))) (fun _ i _ => its.length - (intOf i).toNat)
  case atStart => exact ⟨0, Nat.zero_le _, rfl, x, rfl, World.ownsRow_nil _ _ _ _⟩
  case round =>
    obtain ⟨k, hk, rfl, x, rfl, hown⟩ := hrel
    by_cases hlt : k < its.length
    · obtain ⟨bk, o, rfl, hbk, c0⟩ := hI.out k hlt
      have hll := listedTo_len its s k
      have hle := cnt_le k s
      have hln : (listedTo its s k).length ≤ 16 := by omega
      have HS := Lib.hid (listedTo_succ its s k)
      clear hll hle
      cases hT : s.testBit k
      · have hbit := bit_0 hs hT
        go_wp2
        go_roundw
        case rel => exact ⟨k + 1, by omega, by go_num, x, rfl, by rw [HS.out, if_neg (by simp [hT])]; exact hown⟩
        case measure => simp [intOf]; omega
      · have hbit := bit_1 hs hT
        go_wp2_with (at_builtin; refine wpList_app1 x 22 3 _ 8 Try.info3 rfl Try.underlying22 rfl _ _ rfl _ _ _ (by rfl) hown _ (by rfl) (by rfl) (by omega) (by omega) ?_; intro v' x hown' hgr)
        go_roundw
        case rel => exact ⟨k + 1, by omega, by go_num, x, rfl, owns_step hown' (by rw [HS.out, if_pos hT])⟩
        case measure => simp [intOf]; omega
    · obtain rfl : k = its.length := by omega
      obtain ⟨A', c', rfl⟩ := owns_slice hown
      have hll := listedTo_len its s its.length
      have hle := cnt_le its.length s
      go_wp2
      go_ret
      exact ⟨_, rfl, x, rfl, isInts_of_owns hown (by omega)⟩

/-- a set is less than another one: it has fewer elements, or as many and stands before it -/
def smallB (a b : List Int) : Bool := decide (a.length < b.length) || (decide (a.length = b.length) && lessB a b)
set_option maxRecDepth 100000 in
set_option maxHeartbeats 1000000 in
theorem rsmaller {W : World} (x : Later W) (va vb : Value) (a b : List Int) (ha : IsInts W va a) (hb : IsInts W vb b) : Calls Try.prog 161 #[va, vb] x.w (Ends W (.bool (smallB a b))) := by
  by_cases hl : a.length = b.length
  · have hC := Lib.hid (fun y : Later W => rless y va vb a b ha hb (by omega))
    have hE : Hid (smallB a b = lessB a b) := Lib.hid (by unfold smallB; rw [hl]; simp)
    obtain ⟨A, c, rfl, _, _⟩ := ha
    obtain ⟨B, d, rfl, _, _⟩ := hb
    have hlt : ¬ a.length < b.length := by omega
    replace hl := Lib.hid hl
    have h1 : decide (a.length < b.length) = false := decide_eq_false hlt
    have h2 : ((a.length : Int) == (b.length : Int)) = true := by have := hl.out; simp; omega
    go_enter Try.func161, Try.ntmps161
    go_wp2_with (go_at_call 113; refine (hC.out x).mono ?_; rintro e w' ⟨rfl, x, rfl⟩)
    go_ret; exact ⟨ret_bool hE.out.symm, x, rfl⟩
  · have hE : Hid (smallB a b = decide (a.length < b.length)) := Lib.hid (by unfold smallB; rw [decide_eq_false hl]; simp)
    obtain ⟨A, c, rfl, _, _⟩ := ha
    obtain ⟨B, d, rfl, _, _⟩ := hb
    have h2 : ((a.length : Int) == (b.length : Int)) = false := by simp; omega
    by_cases hlt : a.length < b.length
    · rw [decide_eq_true hlt] at hE
      go_enter Try.func161, Try.ntmps161
      go_wp2
      go_ret; exact ⟨ret_bool hE.out.symm, x, rfl⟩
    · rw [decide_eq_false hlt] at hE
      go_enter Try.func161, Try.ntmps161
      go_wp2
      go_ret; exact ⟨ret_bool hE.out.symm, x, rfl⟩
end Go.Proofs.Ytmpkbolabdmkkaa
