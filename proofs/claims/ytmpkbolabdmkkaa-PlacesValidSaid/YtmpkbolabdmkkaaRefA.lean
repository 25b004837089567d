/- CONTRACTS of the reference's small functions: within, option, before, options. -/
import Derived.Test.YtmpkbolabdmkkaaBase
namespace Go.Proofs.Ytmpkbolabdmkkaa
open Go.RowKit

set_option maxHeartbeats 400000 in
theorem rwithin (a b c : Int) (w : World) :
    Calls Try.prog 85 #[.int .i64 a, .int .i64 b, .int .i64 c] w fun e w' => e = .returned (.bool (wi a b c)) ∧ w = w' := by
  go_enter Try.func85, Try.ntmps85
  go_wp2
  all_goals (go_ret; exact ⟨ret_bool (by simp [wi]; try omega), rfl⟩)

set_option maxHeartbeats 400000 in
theorem roption {W : World} (x : Later W) (o : Opt) :
    Calls Try.prog 133 #[.agg #[.int .i64 o.piece, .int .i64 o.shift, .bool o.back, .int .i64 o.colour]] x.w (Ends W (.bool (optOK o))) := by
  go_enter Try.func133, Try.ntmps133
  go_wp2_with (go_at_call 85; refine (rwithin _ _ _ _).mono ?_; rintro e w' ⟨rfl, rfl⟩)
  all_goals (go_ret; exact ⟨ret_bool (by simp_all [optOK]), x.step (below_alloc1 _ _)⟩)

set_option maxHeartbeats 400000 in
theorem rbefore {W : World} (x : Later W) (a b : Opt) :
    Calls Try.prog 134 #[.agg #[.int .i64 a.piece, .int .i64 a.shift, .bool a.back, .int .i64 a.colour], .agg #[.int .i64 b.piece, .int .i64 b.shift, .bool b.back, .int .i64 b.colour]] x.w (Ends W (.bool (optLt a b))) := by
  go_enter Try.func134, Try.ntmps134
  go_wp2
  all_goals (go_ret; refine ⟨ret_bool ?_, x.step ((below_alloc1 _ _).trans ((below_alloc1 _ _).mono (by simp)))⟩)
  all_goals (unfold optLt; simp_all; try (rw [Bool.eq_iff_iff]; simp [*]))

set_option maxHeartbeats 1000000 in
theorem roptions {W : World} (x : Later W) (v : Value) (l : List Opt) (h : IsOpts W v l) :
    Calls Try.prog 86 #[v] x.w (Ends W (.bool (optsOK l))) := by
  obtain ⟨a, c, rfl, hl, h⟩ := h.opened
  by_cases hlen : 1 ≤ l.length ∧ l.length ≤ 256
  case neg =>
    have hno := Lib.hid (optsOK_no hlen)
    go_enter Try.func86, Try.ntmps86
    go_wp2
    all_goals (go_ret; exact ⟨ret_bool hno.out.symm, x, rfl⟩)
  have hyes := Lib.hid (@optsOK_yes l hlen)
  obtain ⟨hlen1, hlen2⟩ := hlen
  go_enter Try.func86, Try.ntmps86
  go_wp2
  go_loopw [3] (fun i wr => ∃ k : Nat, k ≤ l.length ∧ i = .int .i64 k ∧ (∃ x : Later W, wr = x.w) ∧ (∀ i, i < k → optOK (nth l i) = true ∧ (0 < i → optLt (nth l (i - 1)) (nth l i) = true))) (fun i _ => l.length - (intOf i).toNat)
  case atStart => exact ⟨0, Nat.zero_le _, rfl, ⟨x, rfl⟩, by omega⟩
  case round =>
    obtain ⟨k, hk, rfl, ⟨x, rfl⟩, hno⟩ := hrel
    replace hno := Lib.hid hno
    by_cases hlt : k < l.length
    · have hbad := Lib.hid (@optsOK_bad l k hlt)
      obtain ⟨b, o, rfl, hb, c0, c1, c2, c3⟩ := h.out k hlt
      by_cases h1 : optOK (nth l k) = true
      · by_cases h2 : 0 < k
        · obtain ⟨_, _, he, _, d0, d1, d2, d3⟩ := h.out (k - 1) (by omega)
          cases he
          go_wp2
          refine wp_region_later x (by kernel_rfl) (by kernel_rfl) ?_
          repeat (go_big_quiet_step ((first | (go_at_call 133; exact roption _ _) | (go_at_call 134; exact rbefore _ _ _))))
          refine wpQuiet_nil ?_
          rintro _ ⟨x, rfl⟩
          cases h3 : optLt (nth l (k - 1)) (nth l k) <;> go_wp2
          · go_ret; exact ⟨ret_bool (hbad.out (.inr ⟨h2, h3⟩)).symm, x, rfl⟩
          · go_roundw
            case rel => exact ⟨k + 1, by omega, by go_num, ⟨x, rfl⟩, all_step hno.out ⟨h1, fun _ => h3⟩⟩
            case measure => simp [intOf]; omega
        · go_wp2
          refine wp_region_later x (by kernel_rfl) (by kernel_rfl) ?_
          repeat (go_big_quiet_step ((first | (go_at_call 133; exact roption _ _) | (go_at_call 134; exact rbefore _ _ _))))
          refine wpQuiet_nil ?_
          rintro _ ⟨x, rfl⟩
          go_wp2
          go_roundw
          case rel => exact ⟨k + 1, by omega, by go_num, ⟨x, rfl⟩, all_step hno.out ⟨h1, fun h => absurd h h2⟩⟩
          case measure => simp [intOf]; omega
      · have h1 : optOK (nth l k) = false := by simpa using h1
        go_wp2
        refine wp_region_later x (by kernel_rfl) (by kernel_rfl) ?_
        repeat (go_big_quiet_step ((first | (go_at_call 133; exact roption _ _) | (go_at_call 134; exact rbefore _ _ _))))
        refine wpQuiet_nil ?_
        rintro _ ⟨x, rfl⟩
        go_wp2
        go_ret; exact ⟨ret_bool (hbad.out (.inl h1)).symm, x, rfl⟩
    · obtain rfl : k = l.length := by omega
      go_wp2
      go_ret; exact ⟨ret_bool (hyes.out hno.out).symm, x, rfl⟩
end Go.Proofs.Ytmpkbolabdmkkaa
