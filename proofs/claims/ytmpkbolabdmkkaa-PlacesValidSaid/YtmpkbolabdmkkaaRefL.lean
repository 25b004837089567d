/- CONTRACTS of the reference's none, Possible. -/
import Derived.Test.YtmpkbolabdmkkaaRefK
import Derived.Test.YtmpkbolabdmkkaaFil3
namespace Go.Proofs.Ytmpkbolabdmkkaa
open Go.RowKit

set_option maxRecDepth 100000 in
set_option maxHeartbeats 1000000 in
theorem rnone {W : World} (x : Later W) (v0 v1 v2 : Value) (p : Prob) (b : Bool) (hp : IsProb W v0 v1 v2 p) (hn : p.opts.length ≤ 65536) :
    Calls Try.prog 107 #[.agg #[v0, v1, v2], .bool b] x.w (EndsTab W (fullTab p b)) := by
  go_enter Try.func107, Try.ntmps107
  go_upto_region 1 with (fail)
  obtain ⟨W1, x1, e1, hb1, s1, p0, p1, p2⟩ := enter3 x v0 v1 v2 26
  rw [e1]; clear e1
  obtain ⟨ao, co, rfl, lo, hopts⟩ := (hp.opts.below hb1).opened
  clear hp
  go_wp2
  go_loopw [5, 6] (fun v i wr => ∃ k : Nat, k ≤ p.opts.length ∧ i = .int .i64 k ∧ ∃ y : Later W1, wr = y.w ∧ ∃ vs, OwnTab y v (fullTo p b k) vs) (fun _ i _ => p.opts.length - (intOf i).toNat)
  case atStart => exact ⟨0, Nat.zero_le _, rfl, x1, rfl, [], OwnTab.nil _⟩
  case round =>
    obtain ⟨k, hk, rfl, ⟨x, rfl, vs, hout⟩⟩ := hrel
    by_cases hlt : k < p.opts.length
    · obtain ⟨bo, oo, rfl, hbo, u, c0, hu⟩ := hopts.out k hlt
      obtain ⟨au, cu, rfl, lu, _⟩ := hu.opened
      have HS := Lib.hid (fullTo_succ p b hlt)
      have hlen := fullTo_len p b (Nat.le_of_lt hlt)
      replace hlen := Lib.hid hlen
      have hlt2 := Lib.hid hout.block
      have q1 := Later.cells x.h p1
      have r0 := Later.cells x.h c0
      have rb := Later.sizes x.h hbo
      have sb := Later.sizes x.h s1
      go_wp2
      go_loopw [7, 8] (fun v i wr => ∃ m : Nat, m ≤ (nth p.opts k).length ∧ i = .int .i64 m ∧ ∃ y : Later x.w, wr = y.w ∧ y.w.ownsRow x.w.heap.size 4 1 v m ((List.replicate m b).map Value.bool)) (fun _ i _ => (nth p.opts k).length - (intOf i).toNat)
      case atStart => exact ⟨0, Nat.zero_le _, rfl, Later.now x.w, rfl, World.ownsRow_nil _ _ _ _⟩
      case round =>
        obtain ⟨m, hm, rfl, ⟨y, rfl, hrow⟩⟩ := hrel
        replace hrow := Lib.hid hrow
        by_cases hlt' : m < (nth p.opts k).length
        · have HR : Hid ((List.replicate (m + 1) b).map Value.bool = (List.replicate m b).map Value.bool ++ [.bool b]) := Lib.hid (by rw [List.replicate_succ', List.map_append]; rfl)
          go_wp2_with (at_builtin; refine wpList_app1 y 52 4 _ 1 Try.info4 rfl Try.underlying52 rfl _ _ rfl _ _ _ (by rfl) hrow.out _ (by rfl) (by rfl) (by omega) (by omega) ?_; intro v' z hrow' _)
          go_roundw
          case rel => exact ⟨m + 1, by omega, by go_num, z, rfl, by rw [HR.out]; exact hrow'⟩
          case measure => simp [intOf]; omega
        · obtain rfl : m = (nth p.opts k).length := by omega
          have hrow2 := hrow.out
          clear hrow
          obtain ⟨A, c, rfl⟩ := owns_slice hrow2
          have hrow3 := Lib.hid (owns_len hrow2)
          have hout2 := Lib.hid (hout.later (z := x.up y) y.h)
          clear hrow2 hout
          go_wp2_with (at_builtin; refine wpList_appTab (x.up y) rfl _ _ rfl _ _ _ (by rfl) hout2.out _ (List.replicate (nth p.opts k).length b) x.w.heap.size x.h.size hrow3.out hlt2.out (by rfl) (by rw [hlen.out]; omega) ?_; intro v' z hout')
          go_roundw
          case rel => exact ⟨k + 1, by omega, by go_num, z, rfl, _, by rw [HS.out]; exact hout'⟩
          case measure => simp [intOf]; omega
    · obtain rfl : k = p.opts.length := by omega
      go_wp2
      go_ret
      obtain ⟨z, hz, ht⟩ := hout.down hb1
      exact ⟨_, rfl, z, hz, vs, ht⟩
end Go.Proofs.Ytmpkbolabdmkkaa
