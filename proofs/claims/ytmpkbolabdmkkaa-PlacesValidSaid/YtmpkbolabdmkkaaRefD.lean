/- CONTRACTS of the reference's Items and Valid. -/
import Derived.Test.YtmpkbolabdmkkaaRefB
import Derived.Test.YtmpkbolabdmkkaaRefC
namespace Go.Proofs.Ytmpkbolabdmkkaa
open Go.RowKit

theorem itemsTo_yes {l : List Rl} {k : Nat} (h : k = 0 ∨ (nth l k).item ≠ (nth l (k - 1)).item) : itemsTo l (k + 1) = itemsTo l k ++ [(nth l k).item] := by
  show (if _ then _ else _) = _; rw [if_pos h]
theorem itemsTo_no {l : List Rl} {k : Nat} (h : ¬ (k = 0 ∨ (nth l k).item ≠ (nth l (k - 1)).item)) : itemsTo l (k + 1) = itemsTo l k := by
  show (if _ then _ else _) = _; rw [if_neg h]

set_option maxRecDepth 100000 in
set_option maxHeartbeats 1000000 in
theorem rItems {W : World} (x : Later W) (v0 v1 v2 : Value) (p : Prob) (hp : IsProb W v0 v1 v2 p) :
    Calls Try.prog 26 #[.agg #[v0, v1, v2]] x.w (EndsInts W (items p)) := by
  obtain ⟨i0, hi, hz0, hz1, hz2⟩ := info_parts Try.info3
  go_enter Try.func26, Try.ntmps26
  go_upto_region 1 with (fail)
  obtain ⟨W1, x1, e1, hb1, s1, p0, p1, p2⟩ := enter3 x v0 v1 v2 26
  rw [e1]; clear e1
  obtain ⟨ar, cr, rfl, lr, hr⟩ := (hp.rules.below hb1).opened
  clear hp
  go_wp2
  go_loopw [3, 4] (fun v i wr => ∃ k : Nat, k ≤ p.rules.length ∧ i = .int .i64 k ∧ (∃ y : Later W1, wr = y.w ∧ y.w.ownsRow W1.heap.size 3 1 v (itemsTo p.rules k).length ((itemsTo p.rules k).map (Value.int .i64)))) (fun _ i _ => p.rules.length - (intOf i).toNat)
  case atStart => exact ⟨0, Nat.zero_le _, rfl, ⟨x1, rfl, World.ownsRow_nil _ _ _ _⟩⟩
  case round =>
    obtain ⟨k, hk, rfl, ⟨x, rfl, hown⟩⟩ := hrel
    have hle := itemsTo_len p.rules k
    by_cases hlt : k < p.rules.length
    · obtain ⟨b, o, rfl, hb, u2, u3, u6, c0, c1, c2, c3, c4, c5, c6, _⟩ := hr.out k hlt
      by_cases h0 : k = 0
      · subst h0
        have HS := Lib.hid (@itemsTo_yes p.rules 0 (.inl rfl))
        simp only [Nat.zero_mul, Nat.add_zero] at c0
        go_wp2
        refine wp_region_since x (by kernel_rfl) (by kernel_rfl) ?_
        repeat (go_big_quiet_step (fail))
        refine wpQuiet_nil ?_
        rintro _ ⟨⟨y, hy⟩, rfl⟩
        replace hown := owns_later hown hy
        go_wp2_with (at_builtin; refine wpList_app1 y 22 3 _ 8 Try.info3 rfl Try.underlying22 rfl _ _ rfl _ _ _ (by rfl) hown _ (by rfl) (by rfl) (by omega) (by omega) ?_; intro v' x hown' hgr)
        go_roundw
        case rel => exact ⟨1, by omega, rfl, ⟨x, rfl, owns_step hown' HS.out⟩⟩
        case measure => simp [intOf]; omega
      · have h0' : 0 < k := by omega
        have hk0 : ((k : Int) == 0) = false := by simp; omega
        obtain ⟨_, _, he, _, _, _, _, d0, _, _, _, _, _, _, _⟩ := hr.out (k - 1) (by omega)
        cases he
        have HS := Lib.hid (@itemsTo_yes p.rules k)
        have HN := Lib.hid (@itemsTo_no p.rules k)
        go_wp2
        refine wp_region_since x (by kernel_rfl) (by kernel_rfl) ?_
        repeat (go_big_quiet_step (fail))
        refine wpQuiet_nil ?_
        rintro _ ⟨⟨y, hy⟩, rfl⟩
        replace hown := owns_later hown hy
        go_wp2_with (at_builtin; refine wpList_app1 y 22 3 _ 8 Try.info3 rfl Try.underlying22 rfl _ _ rfl _ _ _ (by rfl) hown _ (by rfl) (by rfl) (by omega) (by omega) ?_; intro v' x hown' hgr)
        · go_roundw
          case rel => exact ⟨k + 1, by omega, by go_num, ⟨x, rfl, owns_step hown' (HS.out (.inr (ne_bneI (by assumption))))⟩⟩
          case measure => simp [intOf]; omega
        · go_roundw
          case rel => exact ⟨k + 1, by omega, by go_num, ⟨y, rfl, by rw [HN.out (fun h => h.elim h0 (fun h' => h' (eq_bneI (by assumption))))]; exact hown⟩⟩
          case measure => simp [intOf]; omega
    · obtain rfl : k = p.rules.length := by omega
      go_wp2
      go_ret
      obtain ⟨z, hz⟩ := x.down hb1
      exact ⟨_, rfl, z, hz, hz ▸ isInts_of_owns hown (by omega)⟩
end Go.Proofs.Ytmpkbolabdmkkaa
